import Derived.Test.YtjnpkcabkccaoaaPk8
import Derived.Test.YtjnpkcabkccaoaaPk3
import Derived.Lib.Bytealg
import Derived.Test.YtjnpkcabkccaoaaPk5
import Derived.Test.YtjnpkcabkccaoaaPk9
import Derived.Lib.BytesEntry
import Derived.Laws.Externs
import Derived.Test.YtjnpkcabkccaoaaPk10
import Derived.Test.YtjnpkcabkccaoaaPk12
/-
  Keys and values, batch by batch: plain functions, no program in sight.
-/
namespace Go.Proofs.Ytjnpkcabkccaoaa
open Go.RowKit

/-- Which one stands ahead: below 0 the first, 0: they are the same. -/
def lex : List Int → List Int → Int
  | [], [] => 0
  | [], _ :: _ => -1
  | _ :: _, [] => 1
  | a :: x, b :: y => if a < b then -1 else if b < a then 1 else lex x y
theorem lex_self : ∀ a, lex a a = 0
  | [] => rfl
  | a :: x => by simp [lex, lex_self x]
theorem lex_zero : ∀ a b, lex a b = 0 → a = b
  | [], [], _ => rfl
  | [], _ :: _, h => by simp [lex] at h
  | _ :: _, [], h => by simp [lex] at h
  | a :: x, b :: y, h => by
    unfold lex at h
    split at h
    · simp at h
    · split at h
      · simp at h
      · have e : a = b := by omega
        rw [e, lex_zero x y h]
theorem lex_swap : ∀ a b, lex b a = - lex a b
  | [], [] => rfl
  | [], _ :: _ => rfl
  | _ :: _, [] => rfl
  | a :: x, b :: y => by
    unfold lex
    have := lex_swap x y
    split <;> split <;> (try split) <;> omega
theorem lex_vals : ∀ a b, lex a b = -1 ∨ lex a b = 0 ∨ lex a b = 1
  | [], [] => by simp [lex]
  | [], _ :: _ => by simp [lex]
  | _ :: _, [] => by simp [lex]
  | a :: x, b :: y => by
    unfold lex
    have := lex_vals x y
    split
    · simp
    · split
      · simp
      · exact this
theorem lex_trans : ∀ a b c, lex a b < 0 → lex b c < 0 → lex a c < 0
  | [], [], c, h, _ => by simp [lex] at h
  | _ :: _, [], c, h, _ => by simp [lex] at h
  | _, _ :: _, [], _, h => by simp [lex] at h
  | [], _ :: _, _ :: _, _, _ => by simp [lex]
  | a :: x, b :: y, c :: z, h, k => by
    unfold lex at h k ⊢
    have := lex_trans x y z
    split at h
    · split at k
      · rw [if_pos (by omega)]; omega
      · split at k
        · omega
        · rw [if_pos (by omega)]; omega
    · split at h
      · omega
      · split at k
        · rw [if_pos (by omega)]; omega
        · split at k
          · omega
          · rw [if_neg (by omega), if_neg (by omega)]
            exact this h k
theorem u8_lt (a b : Int) (ha : 0 ≤ a ∧ a ≤ 255) (hb : 0 ≤ b ∧ b ≤ 255) : UInt8.ofNat a.toNat < UInt8.ofNat b.toNat ↔ a < b := by
  rw [UInt8.lt_iff_toNat_lt]
  simp only [UInt8.toNat_ofNat']
  omega
theorem compare_lex : ∀ a b : List Int, Byt a → Byt b → Lib.compareBytes (a.map fun n => UInt8.ofNat n.toNat) (b.map fun n => UInt8.ofNat n.toNat) = lex a b
  | [], [], _, _ => rfl
  | [], _ :: _, _, _ => rfl
  | _ :: _, [], _, _ => rfl
  | a :: x, b :: y, ha, hb => by
    have h1 := u8_lt a b (ha a (by simp)) (hb b (by simp))
    have h2 := u8_lt b a (hb b (by simp)) (ha a (by simp))
    have ih := compare_lex x y (fun z hz => ha z (by simp [hz])) (fun z hz => hb z (by simp [hz]))
    simp only [List.map_cons, Lib.compareBytes, lex, h1, h2, ih]
theorem ba_list (a : List Int) : (ba a).toList = a.map fun n => UInt8.ofNat n.toNat := by rw [ByteArray.toList_eq, ← ba_data]
theorem compare_ba (a b : List Int) (ha : Byt a) (hb : Byt b) : Lib.compareBytes (ba a).data.toList (ba b).data.toList = lex a b := by
  rw [ba_data, ba_data, compare_lex a b ha hb]
theorem less_lex : ∀ a b : List Int, Byt a → Byt b → Op.bytesLess (a.map fun n => UInt8.ofNat n.toNat) (b.map fun n => UInt8.ofNat n.toNat) = decide (lex a b < 0)
  | [], [], _, _ => rfl
  | [], _ :: _, _, _ => rfl
  | _ :: _, [], _, _ => rfl
  | a :: x, b :: y, ha, hb => by
    have h1 := u8_lt a b (ha a (by simp)) (hb b (by simp))
    have ih := less_lex x y (fun z hz => ha z (by simp [hz])) (fun z hz => hb z (by simp [hz]))
    have h3 : (UInt8.ofNat a.toNat == UInt8.ofNat b.toNat) = decide (a = b) := by
      rw [Bool.eq_iff_iff]
      simp only [beq_iff_eq, decide_eq_true_eq]
      have := ha a (by simp); have := hb b (by simp)
      constructor
      · intro h
        have h9 := congrArg UInt8.toNat h
        simp only [UInt8.toNat_ofNat'] at h9
        omega
      · intro h; rw [h]
    simp only [List.map_cons, Op.bytesLess, lex, h1, h3, ih]
    by_cases c1 : a < b
    · simp [c1]
    · by_cases c2 : b < a
      · have : ¬ a = b := by omega
        simp [c1, c2, this]
      · have : a = b := by omega
        simp [this]
theorem less_ba (a b : List Int) (ha : Byt a) (hb : Byt b) : Op.bytesLess (ba a).toList (ba b).toList = decide (lex a b < 0) := by
  rw [ba_list, ba_list, less_lex a b ha hb]
/-! ### Pairs -/
structure PairD where
  key : List Int
  value : List Int
  gone : Bool
instance : DecidableEq PairD := fun a b => decidable_of_iff (a.key = b.key ∧ a.value = b.value ∧ a.gone = b.gone) ⟨fun h => by cases a; cases b; simp_all, fun h => by rw [h]; exact ⟨rfl, rfl, rfl⟩⟩
def PairD.okB (p : PairD) : Bool := decide (1 ≤ p.key.length) && (decide (p.key.length ≤ 200) && (decide (p.value.length ≤ 20000) && (!p.gone || decide (p.value.length = 0))))
def aheadB : Option (List Int) → List Int → Bool
  | none, _ => true
  | some k, x => decide (lex k x < 0)
/-- Is it a batch, behind that key? -/
def rightFrom : Option (List Int) → List PairD → Bool
  | _, [] => true
  | o, p :: l => (p.okB && aheadB o p.key) && rightFrom (some p.key) l
def rightB (l : List PairD) : Bool := rightFrom none l
def PairD.bytes (p : PairD) : List Int := txt p.key ++ (if p.gone then [0] else 1 :: txt p.value)
def bytesP (l : List PairD) : List Int := cnt l.length ++ l.flatMap PairD.bytes
def tbytes (l : List PairD) : List Int × Int := if rightB l then (bytesP l, 0) else ([], 151)
/-- A pair is read; none: it is no pair. -/
def Rd.pair (r : Rd) : Option (PairD × Rd) :=
  if 1 < ((r.text 200).2.fixed 1).1 then none
  else if ((r.text 200).2.fixed 1).1 = 1 then some (⟨(r.text 200).1, ((r.text 200).2.fixed 1).2.text 20000 |>.1, false⟩, ((r.text 200).2.fixed 1).2.text 20000 |>.2)
  else some (⟨(r.text 200).1, [], true⟩, ((r.text 200).2.fixed 1).2)
def Rd.pairs : Nat → Rd → Option (List PairD × Rd)
  | 0, r => some ([], r)
  | n + 1, r => if r.err ≠ 0 then some ([], r) else match r.pair with
    | none => none
    | some q => (Rd.pairs n q.2).map fun z => (q.1 :: z.1, z.2)
def doneP : Option (List PairD × Rd) → Option (List PairD)
  | none => none
  | some q => if q.2.err ≠ 0 ∨ 0 < q.2.rest.length ∨ rightB q.1 = false then none else some q.1
def parseP (b : List Int) : Option (List PairD) := doneP (Rd.pairs (Rd.count ⟨b, 0⟩ 1048576).1 (Rd.count ⟨b, 0⟩ 1048576).2)
def restP (p : PairD) (l : List PairD) (c : PairD) : List PairD := if lex p.key c.key = 0 then l else p :: l
theorem restP_len (p : PairD) (l : List PairD) (c : PairD) : (restP p l c).length ≤ l.length + 1 := by unfold restP; split <;> simp
/-- Pairs, and what becomes of them. -/
def mergeD : List PairD → List PairD → List PairD
  | l, [] => l
  | [], c :: cs => (if c.gone then [] else [c]) ++ mergeD [] cs
  | p :: l, c :: cs =>
    if lex p.key c.key < 0 then p :: mergeD l (c :: cs)
    else (if c.gone then [] else [c]) ++ mergeD (restP p l c) cs
termination_by l c => l.length + c.length
decreasing_by
  · simp
  · simp
  · have := restP_len p l c; simp only [List.length_cons]; omega
def goneIn (l : List PairD) : Bool := l.any (·.gone)
def toldR : List PairD → List (List Int) → Option (List PairD)
  | out, [] => some out
  | out, b :: bs => match parseP b with
    | none => none
    | some l => toldR (mergeD out l) bs
def orErr : Option (List PairD) → List PairD × Int
  | none => ([], 151)
  | some l => (l, 0)
/-- What a log tells. -/
def toldL : List (List Int) → List PairD × Int
  | [] => ([], 0)
  | b :: bs => match parseP b with
    | none => ([], 151)
    | some l => if goneIn l then ([], 151) else orErr (toldR l bs)
def toldT (d : Dev) : List PairD × Int := toldL (openL d).2
structure TableD where
  log : LogD
  pairs : List PairD
def openT (d : Dev) : Dev × Option TableD × Int :=
  if (toldT d).2 ≠ 0 then (d, none, (toldT d).2)
  else
    let r := beginL d (openAt (openL d).1) (tbytes (toldT d).1).1
    if r.2.2 ≠ 0 then (r.1, none, r.2.2) else (r.1, some ⟨r.2.1, (toldT d).1⟩, 0)
/-- A batch, or all pairs behind it, are sure. -/
def keepL (d : Dev) (l : LogD) (change whole : List Int) : Dev × LogD × Int :=
  let a := addL d l change
  if a.2.2 = 0 then syncL a.1 a.2.1 else if a.2.2 = 142 then beginL a.1 a.2.1 whole else a
def applyT (d : Dev) (t : TableD) (l : List PairD) : Dev × TableD × Int :=
  if t.log.ready = false then (d, t, 141)
  else if (tbytes l).2 ≠ 0 ∨ l = [] then (d, t, (tbytes l).2)
  else if fitsB d (tbytes (mergeD t.pairs l)).1.length = false then (d, t, 142)
  else
    let r := keepL d t.log (tbytes l).1 (tbytes (mergeD t.pairs l)).1
    (r.1, ⟨r.2.1, if r.2.2 = 0 then mergeD t.pairs l else t.pairs⟩, r.2.2)
/-- How many stand ahead of a key. -/
def placeP (l : List PairD) (key : List Int) : Nat := l.countP fun p => decide (lex p.key key < 0)
def foundP (l : List PairD) (key : List Int) : Bool := match l[placeP l key]? with
  | none => false
  | some p => decide (lex p.key key = 0)
def preB (pre key : List Int) : Bool := decide (pre.length ≤ key.length) && decide (key.take pre.length = pre)
def rangeP (l : List PairD) (pre from_ : List Int) (most : Int) : List PairD :=
  (((l.drop (placeP l (if lex from_ pre < 0 then pre else from_))).takeWhile fun p => preB pre p.key)).take most.toNat
end Go.Proofs.Ytjnpkcabkccaoaa
/-
  table: pairs in memory; which one stands ahead; what a pair may be.
-/
namespace Go.Proofs.Ytjnpkcabkccaoaa
open Go.RowKit
section
variable {P : Program} {ops : Array Oper} {Q : Exit → Act → World → Prop} {md : Region.Mode} {S : World → Prop}
theorem tk {i : Nat} {oi : Oper} {v : Value} {fuel : Nat} {listed : Array Bool} {a : Act} {w : World} (hS : S w) (hv : ∀ w, S w → (execOp a.eval oi).run P w = .ok (.value v) w) (h : wpAnyH P md ops Q S fuel (listed.setIfInBounds i true) (a.put oi.dst v) w) (hi : ops[i]? = some oi := by rfl) (hw : Region.wanted oi (yielded ops a.tmps) = true := by rfl) (hs : Region.noSelect ops = true := by kernel_rfl) (hf : Region.free md ops listed i = true := by kernel_rfl) (hr : (Region.ready md ops listed).contains i = true := by kernel_rfl) (hQ : ∀ c a w, Q (.panic c) (a.put oi.dst v) w → Q (.panic c) a w := by exact fun _ _ _ h => h) : wpAnyH P md ops Q S (fuel + 1) listed a w := wpAnyH_take hi hs hf hr hQ (Or.inl ⟨hw, hv⟩) hS h
theorem tn {i : Nat} {oi : Oper} {fuel : Nat} {listed : Array Bool} {a : Act} {w : World} (hS : S w) (h : wpAnyH P md ops Q S fuel (listed.setIfInBounds i true) (a.put oi.dst undef) w) (hi : ops[i]? = some oi := by rfl) (hw : Region.wanted oi (yielded ops a.tmps) = false := by rfl) (hs : Region.noSelect ops = true := by kernel_rfl) (hf : Region.free md ops listed i = true := by kernel_rfl) (hr : (Region.ready md ops listed).contains i = true := by kernel_rfl) (hQ : ∀ c a w, Q (.panic c) (a.put oi.dst undef) w → Q (.panic c) a w := by exact fun _ _ _ h => h) : wpAnyH P md ops Q S (fuel + 1) listed a w := wpAnyH_take hi hs hf hr hQ (Or.inr ⟨hw, rfl⟩) hS h
theorem sT {α : Type} (l : List α) (i : Nat) (a : α) : l.toArray.setIfInBounds i a = (l.set i a).toArray := by simp
theorem sZ {α : Type} (a b : α) (l : List α) : (a :: l).set 0 b = b :: l := rfl
theorem sS {α : Type} (a b : α) (l : List α) (n : Nat) : (a :: l).set (n + 1) b = a :: l.set n b := rfl
end

section
variable {P : Program}
theorem run_built3 (t : TypeId) (f0 f1 f2 : Field) (k n m : Nat) (hu : P.underlying t = some (.struct #[f0, f1, f2])) (ho0 : f0.offset = 0) (ho1 : f1.offset = k) (ho2 : f2.offset = k + n)
    (hs0 : (P.info? f0.type).map (·.size) = some k) (hs1 : (P.info? f1.type).map (·.size) = some n) (hs2 : (P.info? f2.type).map (·.size) = some m) (hz : (P.info? t).map (fun i => i.zero.map (fun z => z.cells.size)) = some (some (k + n + m)))
    (v0 v1 v2 : Value) (vs0 vs1 vs2 : List Value) (h0 : v0.cells = vs0.toArray) (h1 : v1.cells = vs1.toArray) (h2 : v2.cells = vs2.toArray) (l0 : vs0.length = k) (l1 : vs1.length = n) (l2 : vs2.length = m) (w : World) :
    (Instr.build t #[(0, v0), (1, v1), (2, v2)]).run P w = .ok (.agg (vs0 ++ vs1 ++ vs2).toArray) w := by
  obtain ⟨i, z, hi, hzz, zs, hzs, hzl⟩ := zero_parts hz
  unfold Instr.build
  have hm : (#[f0, f1, f2].mapM fun f => do pure (f.offset, ← sizeOf f.type) : Sem (Array (Nat × Nat))).run P w = .ok #[(0, k), (k, n), (k + n, m)] w := by
    simp [ho0, ho1, ho2, run_size hs0, run_size hs1, run_size hs2]
  have hf : Instr.fill (fun j => #[(0, k), (k, n), (k + n, m)][j]?) zs.toArray [(0, v0), (1, v1), (2, v2)] = some (vs0 ++ vs1 ++ vs2).toArray := by
    rw [fill_one _ zs 0 v0 vs0 0 _ (by rw [l0]; rfl) h0 (by omega)]
    rw [fill_one _ (lay zs 0 vs0) 1 v1 vs1 k _ (by rw [l1]; rfl) h1 (by rw [lay_length]; omega)]
    rw [fill_one _ (lay (lay zs 0 vs0) k vs1) 2 v2 vs2 (k + n) _ (by rw [l2]; rfl) h2 (by rw [lay_length, lay_length]; omega)]
    rw [Instr.fill]
    congr 2
    rw [lay_eq _ _ _ (by rw [lay_length, lay_length]; omega), lay_eq (lay zs 0 vs0) k vs1 (by rw [lay_length]; omega), lay_eq zs 0 vs0 (by omega)]
    have e1 : (zs.take 0 ++ vs0 ++ zs.drop (0 + vs0.length)).take k = vs0 := by rw [List.take_zero, List.nil_append, List.take_append_of_le_length (by omega), List.take_of_length_le (by omega)]
    rw [e1]
    have e2 : (vs0 ++ vs1 ++ (zs.take 0 ++ vs0 ++ zs.drop (0 + vs0.length)).drop (k + vs1.length)).take (k + n) = vs0 ++ vs1 := by
      rw [List.take_append, List.take_of_length_le (by simp; omega)]
      have : k + n - (vs0 ++ vs1).length = 0 := by simp; omega
      rw [this, List.take_zero, List.append_nil]
    have e3 : (vs0 ++ vs1 ++ (zs.take 0 ++ vs0 ++ zs.drop (0 + vs0.length)).drop (k + vs1.length)).drop (k + n + vs2.length) = [] := by
      apply List.drop_of_length_le
      simp
      omega
    rw [e2, e3, List.append_nil]
  simp only [Sem.run_bind, run_zero hi hzz, Result.andThen_ok, run_underlying hu, hm, hzs]
  simp only [hf]
  simp
end
/-! ### A pair in memory -/
structure PairV where
  kA : Option Addr
  kN : Nat
  kC : Nat
  key : List Int
  vA : Option Addr
  vN : Nat
  vC : Nat
  value : List Int
  gone : Bool
def PairV.cells (p : PairV) : List Value := [.slice p.kA p.kN p.kC, .slice p.vA p.vN p.vC, .bool p.gone]
def PairV.d (p : PairV) : PairD := ⟨p.key, p.value, p.gone⟩
structure PairV.Fine (w : World) (p : PairV) : Prop where
  key : Bys w p.kA p.kN p.key
  kcap : p.kN ≤ p.kC
  value : Bys w p.vA p.vN p.value
  vcap : p.vN ≤ p.vC
theorem PairV.Fine.below {w w' : World} {p : PairV} (h : p.Fine w) (hb : Below w.heap.size w w') : p.Fine w' := ⟨h.key.below hb, h.kcap, h.value.below hb, h.vcap⟩
theorem PairV.one (p : PairV) : ∀ v ∈ p.cells, v.oneCell' = true := by
  intro v hv
  simp only [PairV.cells, List.mem_cons, List.mem_nil_iff, or_false] at hv
  rcases hv with rfl | rfl | rfl <;> rfl
abbrev PairsIn (w : World) (A : Option Addr) (n : Nat) (xs : List PairV) : Prop := RowsIn PairV.cells 3 PairV.Fine w A n xs
theorem PairsIn.below' {w w' : World} {A : Option Addr} {n : Nat} {xs : List PairV} (h : PairsIn w A n xs) (hb : Below w.heap.size w w') : PairsIn w' A n xs := h.below hb fun _ h => h.below hb
def zeroPr : List Value := [.slice none 0 0, .slice none 0 0, .bool false]
theorem zeroPr_info : (Try.prog.info? 100).map (·.zero) = some (some (.agg zeroPr.toArray)) := by kernel_rfl
theorem isPr : (Try.prog.info? 100).map (·.size) = some 3 := by kernel_rfl
theorem pr_infoR : (Try.prog.info? 100).map (fun i => (i.size, i.bytes, i.zero.map (fun z => z.cells.size))) = some (3, 56, some 3) := by kernel_rfl
def loadPr (a : Addr) : Sem Value := loadVar 100 a
theorem loadPr_fold (a : Addr) : loadVar 100 a = loadPr a := rfl
theorem loadPr_run (w : World) (b o : Nat) (p : PairV) (h : w.rangeAt b o p.cells) : (loadPr ⟨b, o, none⟩).run Try.prog w = .ok (.agg p.cells.toArray) w :=
  run_loadVar_mid w b o _ p.cells _ h Try.underlying100 rfl (by rw [isPr]; rfl)
theorem pr_store {w : World} {ops : Array Oper} {rest : List Oper} {op : Oper} {a : Act} {Q : Exit → Act → World → Prop} (hgd : op.guard = none) (x y : Operand) (ho : op.op = .store 100 x y) (w0 : World) (hw : w = w0.alloc (.cells zeroPr.toArray 100))
    (hx : a.eval x = .pointer (some ⟨w0.heap.size, 0, none⟩)) (V : PairV) (hy : a.eval y = .agg V.cells.toArray)
    (h : ∀ w', Below w0.heap.size w0 w' → w0.heap.size < w'.heap.size → Blk w' w0.heap.size 100 V.cells → wpList Try.prog ops Q rest (a.put op.dst undef) w') : wpList Try.prog ops Q (op :: rest) a w := by
  subst hw
  have hI := isPr
  refine wpList_store_blk hgd 100 x y ho w0.heap.size 0 100 zeroPr V.cells hx hy (Blk.new w0 _ _) (Nat.le_refl _) (by exact hI) (PairV.one V) ?_
  intro w' o z b
  rw [lay_all _ _ (by rfl)] at b
  have hb : Below w0.heap.size w0 (w0.alloc (.cells zeroPr.toArray 100)) := below_alloc (Below.refl _ _) _
  exact h w' (hb.trans (o.below hb.size (fun i hi e => by have h9 : i = w0.heap.size := e; omega))) b.lt b
def mkPr (parts : Array (Nat × Value)) : Sem Value := Instr.build 100 parts
theorem mkPr_fold (parts : Array (Nat × Value)) : Instr.build 100 parts = mkPr parts := rfl
def mkPrs1 (parts : Array (Nat × Value)) : Sem Value := Instr.buildSlice 94 1 parts
theorem mkPrs1_fold (parts : Array (Nat × Value)) : Instr.buildSlice 94 1 parts = mkPrs1 parts := rfl
theorem pr_zeros : (Try.prog.info? 100).map (fun i => i.zero.map (fun z => z.cells.size)) = some (some 3) := by kernel_rfl
theorem mkPrs1_run (w : World) (p : PairV) : (mkPrs1 #[(0, .agg p.cells.toArray)]).run Try.prog w = .ok (.slice (some ⟨w.heap.size, 0, none⟩) 1 1) (w.alloc (.cells p.cells.toArray 100)) :=
  run_buildSlice_one 94 100 3 Try.underlying94 isPr pr_zeros (by decide) (by decide) p.cells rfl w
theorem mkPr_run (w : World) (p : PairV) : (mkPr #[(0, .slice p.kA p.kN p.kC), (1, .slice p.vA p.vN p.vC), (2, .bool p.gone)]).run Try.prog w = .ok (.agg p.cells.toArray) w := by
  have := run_built3 (P := Try.prog) 100 _ _ _ 1 1 1 Try.underlying100 rfl rfl rfl (by kernel_rfl) (by kernel_rfl) (by kernel_rfl) (by kernel_rfl) (.slice p.kA p.kN p.kC) (.slice p.vA p.vN p.vC) (.bool p.gone) [.slice p.kA p.kN p.kC] [.slice p.vA p.vN p.vC] [.bool p.gone] rfl rfl rfl rfl rfl rfl w
  rw [mkPr, this]
  rfl
/-! ### bytes.Compare -/
theorem run_bytesOf {P : Program} (w : World) (A : Option Addr) (n c : Nat) (xs : List Int) (hA : Bys w A n xs) : (Extern.Bytes.bytesOf (.slice A n c)).run P w = .ok ⟨(Lib.bytesOf xs).toArray⟩ w := by
  have hl := hA.1
  rcases Nat.eq_zero_or_pos n with h0 | h0
  · subst h0
    obtain rfl : xs = [] := List.eq_nil_of_length_eq_zero hl
    cases A with
    | none => rfl
    | some a => rfl
  · obtain ⟨b, off, rfl, hc⟩ := hA.2.2 h0
    subst hl
    have := Lib.run_loadBytesX (P := P) w xs ⟨b, off, none⟩ .empty (fun j x hj => by rw [Addr.add_mid]; exact hc j x hj)
    rw [Extern.Bytes.bytesOf, this]
    congr 1
    apply ByteArray.ext
    show (#[] : Array UInt8) ++ (Lib.bytesOf xs).toArray = (Lib.bytesOf xs).toArray
    simp
theorem run_compareB {P : Program} (w : World) (A B : Option Addr) (n c m d : Nat) (xs ys : List Int) (hA : Bys w A n xs) (hB : Bys w B m ys) :
    (Extern.BytealgCompare.compare #[.slice A n c, .slice B m d]).run P w = .ok (.int .i64 (lex xs ys)) w := by
  change Sem.run P (do pure (goInt (Extern.BytealgCompare.cmp (← Extern.Bytes.bytesOf (.slice A n c)) (← Extern.Bytes.bytesOf (.slice B m d))))) w = _
  have h1 := run_bytesOf (P := P) w A n c xs hA
  have h2 := run_bytesOf (P := P) w B m d ys hB
  simp only [Sem.run_bind, h1, h2, Sem.run_pure, Result.andThen]
  rw [Lib.cmp_eq]
  have := compare_lex xs ys hA.2.1 hB.2.1
  simp only [Lib.bytesOf]
  rw [this]
  rfl
set_option maxHeartbeats 1000000 in
set_option maxRecDepth 100000 in
theorem Compare_any (w : World) (A B : Option Addr) (n c m d : Nat) (xs ys : List Int) (hA : Bys w A n xs) (hB : Bys w B m ys) :
    Calls Try.prog 122 #[.slice A n c, .slice B m d] w fun e w' => e = .returned (.int .i64 (lex xs ys)) ∧ w = w' := by
  have hr := hide (run_compareB (P := Try.prog) w A B n c m d xs ys hA hB)
  clear hA hB
  go_enter Try.func122, Try.ntmps122
  go_wp2
  rw [run_callFunc_extern Try.func143 (by kernel_rfl) (by kernel_rfl) (by kernel_rfl) (e := Extern.BytealgCompare.compare) (by kernel_rfl), hr.out]
  simp only [Result.andThen]
  rw [Oper.upon_value]
  go_wp2
  go_ret
  exact ⟨rfl, rfl⟩
theorem lex_range (a b : List Int) : -1 ≤ lex a b ∧ lex a b ≤ 1 := by have := lex_vals a b; omega
set_option maxHeartbeats 1000000 in
theorem byKey_any (w : World) (p q : PairV) (hp : p.Fine w) (hq : q.Fine w) :
    Calls Try.prog 119 #[.agg p.cells.toArray, .agg q.cells.toArray] w fun e w' => e = .returned (.int .i64 (lex p.key q.key)) ∧ Below w.heap.size w w' := by
  have h1 := hp.key.below (below_alloc (below_alloc (Below.refl _ w) (.cells p.cells.toArray 100)) (.cells q.cells.toArray 100))
  have h2 := hq.key.below (below_alloc (below_alloc (Below.refl _ w) (.cells p.cells.toArray 100)) (.cells q.cells.toArray 100))
  have hb := below_alloc (below_alloc (Below.refl _ w) (.cells p.cells.toArray 100)) (.cells q.cells.toArray 100)
  obtain ⟨kA, kN, kC, key, vA, vN, vC, value, gone⟩ := p
  obtain ⟨kA', kN', kC', key', vA', vN', vC', value', gone'⟩ := q
  simp only [PairV.cells] at h1 h2 hb
  have hc := hide (Compare_any _ _ _ _ kC _ kC' _ _ h1 h2)
  have HB := hide hb
  clear hp hq h1 h2 hb
  simp only [PairV.cells]
  go_enter Try.func119, Try.ntmps119
  go_wp2_with fail
  refine hc.out.mono ?_
  rintro e w' ⟨rfl, rfl⟩
  go_wp2_with fail
  go_ret
  exact ⟨rfl, HB.out⟩
set_option maxHeartbeats 1000000 in
theorem one_any (w : World) (p : PairV) (hp : p.Fine w) (hm : p.kN ≤ 1000000000000 ∧ p.vN ≤ 1000000000000) :
    Calls Try.prog 141 #[.agg p.cells.toArray] w fun e w' => e = .returned (.bool p.d.okB) ∧ Below w.heap.size w w' := by
  have hb := below_alloc (Below.refl _ w) (.cells p.cells.toArray 100)
  have hk := hp.key.1
  have hv := hp.value.1
  have hE : p.d.okB = (decide (1 ≤ p.kN) && (decide (p.kN ≤ 200) && (decide (p.vN ≤ 20000) && (!p.gone || decide (p.vN = 0))))) := by
    rw [PairD.okB]; simp only [PairV.d, hk, hv]
  obtain ⟨kA, kN, kC, key, vA, vN, vC, value, gone⟩ := p
  simp only [PairV.cells] at hb hm hE ⊢
  have HB := hide hb
  have HE := hide hE
  obtain ⟨m1, m2⟩ := hm
  clear hp hb hE hk hv
  generalize PairD.okB _ = r at HE
  have i1 : (kN : Int) ≤ 1000000000000 := by omega
  have i2 : (vN : Int) ≤ 1000000000000 := by omega
  cases gone
  all_goals
    go_enter Try.func141, Try.ntmps141
    go_wp2
    all_goals
      go_ret
      refine ⟨?_, HB.out⟩
      rw [HE.out]
      show Ending.returned (Value.bool _) = Ending.returned (Value.bool _)
      congr 2
      rw [Bool.eq_iff_iff]
      simp
      try omega
end Go.Proofs.Ytjnpkcabkccaoaa
/-
  Keys and values, in plain: batches in order, merged.
-/
namespace Go.Proofs.Ytjnpkcabkccaoaa
open Go.RowKit

theorem okB_iff (p : PairD) : p.okB = true ↔ 1 ≤ p.key.length ∧ p.key.length ≤ 200 ∧ p.value.length ≤ 20000 ∧ (p.gone = true → p.value = []) := by
  unfold PairD.okB
  cases p.gone <;> simp [List.length_eq_zero_iff]
def Sorted (l : List PairD) : Prop := l.Pairwise fun a b => lex a.key b.key < 0
theorem rightFrom_iff : ∀ (l : List PairD) (o : Option (List Int)), rightFrom o l = true ↔ (∀ p ∈ l, p.okB = true) ∧ Sorted l ∧ ∀ p ∈ l, aheadB o p.key = true
  | [], o => by simp [rightFrom, Sorted]
  | p :: l, o => by
    have ih := rightFrom_iff l (some p.key)
    unfold rightFrom
    simp only [Bool.and_eq_true, ih, Sorted, List.pairwise_cons, List.mem_cons, forall_eq_or_imp]
    constructor
    · rintro ⟨⟨h1, h2⟩, h3, h4, h5⟩
      refine ⟨⟨h1, h3⟩, ⟨fun q hq => by have := h5 q hq; simpa [aheadB] using this, h4⟩, h2, fun q hq => ?_⟩
      cases o with
      | none => rfl
      | some k =>
        have a1 : lex k p.key < 0 := by simpa [aheadB] using h2
        have a2 : lex p.key q.key < 0 := by have := h5 q hq; simpa [aheadB] using this
        simpa [aheadB] using lex_trans _ _ _ a1 a2
    · rintro ⟨⟨h1, h3⟩, ⟨h5, h4⟩, h2, _⟩
      exact ⟨⟨h1, h2⟩, h3, h4, fun q hq => by simpa [aheadB] using h5 q hq⟩
theorem rightB_iff (l : List PairD) : rightB l = true ↔ (∀ p ∈ l, p.okB = true) ∧ Sorted l := by
  rw [rightB, rightFrom_iff]
  exact ⟨fun h => ⟨h.1, h.2.1⟩, fun h => ⟨h.1, h.2, fun _ _ => rfl⟩⟩
theorem right_sorted {l : List PairD} (h : rightB l = true) : Sorted l := ((rightB_iff l).1 h).2
theorem right_ok {l : List PairD} (h : rightB l = true) : ∀ p ∈ l, p.okB = true := ((rightB_iff l).1 h).1
theorem lt_ne {a b : List Int} (h : lex a b < 0) : a ≠ b := fun e => by rw [e, lex_self] at h; omega
theorem lt_not {a b : List Int} (h : lex a b < 0) : ¬ lex b a < 0 := fun k => by have := lex_swap a b; omega
theorem ge_cases {a b : List Int} (h : ¬ lex a b < 0) : a = b ∨ lex b a < 0 := by
  by_cases h0 : lex a b = 0
  · exact .inl (lex_zero _ _ h0)
  · right; have := lex_swap a b; omega
theorem le_trans' {a b c : List Int} (h : ¬ lex b a < 0) (k : lex b c < 0) : lex a c < 0 := by
  rcases ge_cases h with e | e
  · rw [← e]; exact k
  · exact lex_trans _ _ _ e k
/-! ### Merged -/
theorem mem_or : ∀ (l c : List PairD) (x : PairD), x ∈ mergeD l c → x ∈ l ∨ (x ∈ c ∧ x.gone = false) := by
  intro l c
  induction l, c using mergeD.induct with
  | case1 l => intro x h; rw [mergeD] at h; exact .inl h
  | case2 c cs ih =>
    intro x h
    rw [mergeD] at h
    rcases List.mem_append.1 h with h | h
    · cases hg : c.gone
      · rw [hg] at h; simp at h; right; rw [h]; exact ⟨by simp, hg⟩
      · rw [hg] at h; simp at h
    · rcases ih x h with h | h
      · exact .inl h
      · exact .inr ⟨List.mem_cons_of_mem _ h.1, h.2⟩
  | case3 p l c cs hlt ih =>
    intro x h
    rw [mergeD, if_pos hlt] at h
    rcases List.mem_cons.1 h with h | h
    · left; rw [h]; simp
    · rcases ih x h with h | h
      · exact .inl (List.mem_cons_of_mem _ h)
      · exact .inr h
  | case4 p l c cs hlt ih =>
    intro x h
    rw [mergeD, if_neg hlt] at h
    rcases List.mem_append.1 h with h | h
    · cases hg : c.gone
      · rw [hg] at h; simp at h; right; rw [h]; exact ⟨by simp, hg⟩
      · rw [hg] at h; simp at h
    · rcases ih x h with h | h
      · left
        unfold restP at h
        split at h
        · exact List.mem_cons_of_mem _ h
        · exact h
      · exact .inr ⟨List.mem_cons_of_mem _ h.1, h.2⟩
theorem Sorted.tail {p : PairD} {l : List PairD} (h : Sorted (p :: l)) : Sorted l := (List.pairwise_cons.1 h).2
theorem Sorted.head {p : PairD} {l : List PairD} (h : Sorted (p :: l)) : ∀ q ∈ l, lex p.key q.key < 0 := (List.pairwise_cons.1 h).1
theorem Sorted.cons {p : PairD} {l : List PairD} (h : ∀ q ∈ l, lex p.key q.key < 0) (k : Sorted l) : Sorted (p :: l) := List.pairwise_cons.2 ⟨h, k⟩
theorem sorted_rest {p : PairD} {l : List PairD} (h : Sorted (p :: l)) (c : PairD) : Sorted (restP p l c) := by
  unfold restP
  split
  · exact h.tail
  · exact h
theorem rest_above {p c : PairD} {l : List PairD} (h : Sorted (p :: l)) (hlt : ¬ lex p.key c.key < 0) : ∀ q ∈ restP p l c, lex c.key q.key < 0 := by
  intro q hq
  unfold restP at hq
  split at hq
  · rename_i h0
    rw [← lex_zero _ _ h0]
    exact h.head q hq
  · rename_i h0
    have h1 : lex c.key p.key < 0 := by have := lex_swap p.key c.key; omega
    rcases List.mem_cons.1 hq with hq | hq
    · rw [hq]; exact h1
    · exact lex_trans _ _ _ h1 (h.head q hq)
theorem Sorted.pre {c : PairD} {m : List PairD} (h : ∀ q ∈ m, lex c.key q.key < 0) (k : Sorted m) : Sorted ((if c.gone then [] else [c]) ++ m) := by
  cases c.gone
  · exact Sorted.cons h k
  · exact k
theorem mergeD_sorted : ∀ (l c : List PairD), Sorted l → Sorted c → Sorted (mergeD l c) := by
  intro l c
  induction l, c using mergeD.induct with
  | case1 l => intro h _; rw [mergeD]; exact h
  | case2 c cs ih =>
    intro h k
    rw [mergeD]
    refine Sorted.pre (fun q hq => ?_) (ih h k.tail)
    rcases mem_or _ _ _ hq with hq | hq
    · cases hq
    · exact k.head q hq.1
  | case3 p l c cs hlt ih =>
    intro h k
    rw [mergeD, if_pos hlt]
    refine Sorted.cons (fun q hq => ?_) (ih h.tail k)
    rcases mem_or _ _ _ hq with hq | hq
    · exact h.head q hq
    · rcases List.mem_cons.1 hq.1 with e | hq
      · rw [e]; exact hlt
      · exact lex_trans _ _ _ hlt (k.head q hq)
  | case4 p l c cs hlt ih =>
    intro h k
    rw [mergeD, if_neg hlt]
    refine Sorted.pre (fun q hq => ?_) (ih (sorted_rest h c) k.tail)
    rcases mem_or _ _ _ hq with hq | hq
    · exact rest_above h hlt q hq
    · exact k.head q hq.1
theorem mergeD_mem : ∀ (l c : List PairD), Sorted l → Sorted c → ∀ x, x ∈ mergeD l c ↔ (x ∈ l ∧ ∀ y ∈ c, y.key ≠ x.key) ∨ (x ∈ c ∧ x.gone = false) := by
  intro l c
  induction l, c using mergeD.induct with
  | case1 l => intro _ _ x; rw [mergeD]; simp
  | case2 c cs ih =>
    intro h k x
    rw [mergeD, List.mem_append, ih h k.tail x]
    cases hg : c.gone
    · simp only [Bool.false_eq_true, if_false, List.not_mem_nil, false_and, false_or]
      rw [List.mem_cons, List.mem_cons]
      constructor
      · rintro ((e | e) | e)
        · rw [e]; exact ⟨.inl rfl, hg⟩
        · cases e
        · exact ⟨.inr e.1, e.2⟩
      · rintro ⟨e | e, e2⟩
        · exact .inl (.inl e)
        · exact .inr ⟨e, e2⟩
    · simp only [if_true, List.not_mem_nil, false_and, false_or, List.mem_cons]
      constructor
      · rintro e; exact ⟨.inr e.1, e.2⟩
      · rintro ⟨e | e, e2⟩
        · rw [e, hg] at e2; cases e2
        · exact ⟨e, e2⟩
  | case3 p l c cs hlt ih =>
    intro h k x
    rw [mergeD, if_pos hlt, List.mem_cons, ih h.tail k x]
    have hp : ∀ y ∈ c :: cs, y.key ≠ p.key := fun y hy => by
      rcases List.mem_cons.1 hy with e | hy
      · rw [e]; exact (lt_ne hlt).symm
      · exact (lt_ne (lex_trans _ _ _ hlt (k.head y hy))).symm
    constructor
    · rintro (e | e | e)
      · left; rw [e]; exact ⟨by simp, hp⟩
      · exact .inl ⟨List.mem_cons_of_mem _ e.1, e.2⟩
      · exact .inr e
    · rintro (⟨e, e2⟩ | e)
      · rcases List.mem_cons.1 e with e | e
        · exact .inl e
        · exact .inr (.inl ⟨e, e2⟩)
      · exact .inr (.inr e)
  | case4 p l c cs hlt ih =>
    intro h k x
    rw [mergeD, if_neg hlt, List.mem_append, ih (sorted_rest h c) k.tail x]
    have hab := rest_above h hlt
    have hin : x ∈ restP p l c ↔ x ∈ p :: l ∧ c.key ≠ x.key := by
      constructor
      · intro hx
        refine ⟨?_, lt_ne (hab x hx)⟩
        unfold restP at hx
        split at hx
        · exact List.mem_cons_of_mem _ hx
        · exact hx
      · rintro ⟨hx, hne⟩
        unfold restP
        split
        · rename_i h0
          rcases List.mem_cons.1 hx with e | hx
          · exfalso; apply hne; rw [e, lex_zero _ _ h0]
          · exact hx
        · exact hx
    rw [hin]
    cases hg : c.gone
    · simp only [Bool.false_eq_true, if_false, List.mem_cons, forall_eq_or_imp]
      constructor
      · rintro ((e | e) | ⟨⟨e, e1⟩, e2⟩ | e)
        · right; rw [e]; exact ⟨.inl rfl, hg⟩
        · cases e
        · exact .inl ⟨e, e1, e2⟩
        · exact .inr ⟨.inr e.1, e.2⟩
      · rintro (⟨e, e1, e2⟩ | ⟨e | e, e2⟩)
        · exact .inr (.inl ⟨⟨e, e1⟩, e2⟩)
        · exact .inl (.inl e)
        · exact .inr (.inr ⟨e, e2⟩)
    · simp only [if_true, List.not_mem_nil, false_or, List.mem_cons, forall_eq_or_imp]
      constructor
      · rintro (⟨⟨e, e1⟩, e2⟩ | e)
        · exact .inl ⟨e, e1, e2⟩
        · exact .inr ⟨.inr e.1, e.2⟩
      · rintro (⟨e, e1, e2⟩ | ⟨e | e, e2⟩)
        · exact .inl ⟨⟨e, e1⟩, e2⟩
        · rw [e, hg] at e2; cases e2
        · exact .inr ⟨e, e2⟩
theorem mergeD_nil (l : List PairD) : mergeD l [] = l := by rw [mergeD]
theorem mergeD_right {l c : List PairD} (h : rightB l = true) (k : rightB c = true) : rightB (mergeD l c) = true := by
  rw [rightB_iff]
  refine ⟨fun p hp => ?_, mergeD_sorted l c (right_sorted h) (right_sorted k)⟩
  rcases mem_or _ _ _ hp with hp | hp
  · exact right_ok h p hp
  · exact right_ok k p hp.1
theorem mergeD_here {l : List PairD} (c : List PairD) (h : goneIn l = false) : goneIn (mergeD l c) = false := by
  rw [goneIn, List.any_eq_false] at h ⊢
  intro p hp
  rcases mem_or _ _ _ hp with hp | hp
  · exact h p hp
  · rw [hp.2]; decide
theorem sorted_ext : ∀ (l m : List PairD), Sorted l → Sorted m → (∀ x, x ∈ l ↔ x ∈ m) → l = m
  | [], [], _, _, _ => rfl
  | [], b :: m, _, _, h => by have := (h b).2 (by simp); cases this
  | a :: l, [], _, _, h => by have := (h a).1 (by simp); cases this
  | a :: l, b :: m, hl, hm, h => by
    have hab : a = b := by
      rcases List.mem_cons.1 ((h a).1 (by simp)) with e | e
      · exact e
      · rcases List.mem_cons.1 ((h b).2 (by simp)) with e2 | e2
        · exact e2.symm
        · exact absurd (hl.head b e2) (lt_not (hm.head a e))
    subst hab
    rw [sorted_ext l m hl.tail hm.tail fun x => ?_]
    constructor
    · intro hx
      rcases List.mem_cons.1 ((h x).1 (List.mem_cons_of_mem _ hx)) with e | e
      · have h9 := hl.head x hx
        rw [e, lex_self] at h9
        omega
      · exact e
    · intro hx
      rcases List.mem_cons.1 ((h x).2 (List.mem_cons_of_mem _ hx)) with e | e
      · have h9 := hm.head x hx
        rw [e, lex_self] at h9
        omega
      · exact e
/-! ### The document's merge -/
def insD (out : List PairD) (c : PairD) : List PairD := out.takeWhile (fun p => decide (lex p.key c.key < 0)) ++ c :: out.dropWhile (fun p => decide (lex p.key c.key < 0))
def keptD (l ch : List PairD) : List PairD := l.filter fun p => ch.all fun c => decide (c.key ≠ p.key)
def addD (out : List PairD) (c : PairD) : List PairD := if c.gone then out else insD out c
def refMergeD (l ch : List PairD) : List PairD := ch.foldl addD (keptD l ch)
theorem insD_mem (out : List PairD) (c x : PairD) : x ∈ insD out c ↔ x = c ∨ x ∈ out := by
  have h := List.takeWhile_append_dropWhile (p := fun p : PairD => decide (lex p.key c.key < 0)) (l := out)
  have k : x ∈ out ↔ x ∈ out.takeWhile (fun p => decide (lex p.key c.key < 0)) ∨ x ∈ out.dropWhile (fun p => decide (lex p.key c.key < 0)) := by
    rw [← List.mem_append, h]
  rw [insD, List.mem_append, List.mem_cons, k]
  constructor
  · rintro (h | h | h)
    · exact .inr (.inl h)
    · exact .inl h
    · exact .inr (.inr h)
  · rintro (h | h | h)
    · exact .inr (.inl h)
    · exact .inl h
    · exact .inr (.inr h)
theorem insD_sorted : ∀ (out : List PairD) (c : PairD), Sorted out → (∀ x ∈ out, c.key ≠ x.key) → Sorted (insD out c)
  | [], c, _, _ => by simp [insD, Sorted]
  | a :: out, c, h, k => by
    by_cases hlt : lex a.key c.key < 0
    · have e : insD (a :: out) c = a :: insD out c := by simp [insD, hlt]
      rw [e]
      refine Sorted.cons (fun q hq => ?_) (insD_sorted out c h.tail fun x hx => k x (List.mem_cons_of_mem _ hx))
      rcases (insD_mem out c q).1 hq with e | hq
      · rw [e]; exact hlt
      · exact h.head q hq
    · have e : insD (a :: out) c = c :: a :: out := by simp [insD, hlt]
      rw [e]
      have hca : lex c.key a.key < 0 := by
        rcases ge_cases hlt with e | e
        · exact absurd e.symm (k a (by simp))
        · exact e
      refine Sorted.cons (fun q hq => ?_) h
      rcases List.mem_cons.1 hq with e | hq
      · rw [e]; exact hca
      · exact lex_trans _ _ _ hca (h.head q hq)
theorem addD_all : ∀ (cs out : List PairD), Sorted out → Sorted cs → (∀ x ∈ out, ∀ c ∈ cs, c.key ≠ x.key) → Sorted (cs.foldl addD out) ∧ ∀ x, x ∈ cs.foldl addD out ↔ x ∈ out ∨ (x ∈ cs ∧ x.gone = false)
  | [], out, h, _, _ => ⟨h, fun x => by simp⟩
  | c :: cs, out, h, hc, k => by
    rw [List.foldl_cons]
    cases hg : c.gone
    · have e : addD out c = insD out c := by simp [addD, hg]
      rw [e]
      obtain ⟨i1, i2⟩ := addD_all cs (insD out c) (insD_sorted out c h fun x hx => k x hx c (by simp)) hc.tail (fun x hx d hd => by
        rcases (insD_mem out c x).1 hx with e | hx
        · rw [e]; exact (lt_ne (hc.head d hd)).symm
        · exact k x hx d (List.mem_cons_of_mem _ hd))
      refine ⟨i1, fun x => ?_⟩
      rw [i2 x, insD_mem, List.mem_cons]
      constructor
      · rintro ((e | e) | e)
        · right; rw [e]; exact ⟨.inl rfl, hg⟩
        · exact .inl e
        · exact .inr ⟨.inr e.1, e.2⟩
      · rintro (e | ⟨e | e, e2⟩)
        · exact .inl (.inr e)
        · exact .inl (.inl e)
        · exact .inr ⟨e, e2⟩
    · have e : addD out c = out := by simp [addD, hg]
      rw [e]
      obtain ⟨i1, i2⟩ := addD_all cs out h hc.tail (fun x hx d hd => k x hx d (List.mem_cons_of_mem _ hd))
      refine ⟨i1, fun x => ?_⟩
      rw [i2 x, List.mem_cons]
      constructor
      · rintro (e | e)
        · exact .inl e
        · exact .inr ⟨.inr e.1, e.2⟩
      · rintro (e | ⟨e | e, e2⟩)
        · exact .inl e
        · rw [e, hg] at e2; cases e2
        · exact .inr ⟨e, e2⟩
theorem keptD_mem (l ch : List PairD) (x : PairD) : x ∈ keptD l ch ↔ x ∈ l ∧ ∀ y ∈ ch, y.key ≠ x.key := by
  rw [keptD, List.mem_filter]
  simp only [List.all_eq_true, decide_eq_true_eq]
theorem merge_eq {l c : List PairD} (h : Sorted l) (k : Sorted c) : refMergeD l c = mergeD l c := by
  obtain ⟨i1, i2⟩ := addD_all c (keptD l c) (List.Pairwise.filter _ h) k (fun x hx d hd => ((keptD_mem l c x).1 hx).2 d hd)
  refine sorted_ext _ _ i1 (mergeD_sorted l c h k) fun x => ?_
  rw [refMergeD, i2 x, mergeD_mem l c h k x, keptD_mem]
/-! ### A key's place, and those that begin so -/
theorem place_drop : ∀ (l : List PairD) (f : List Int), Sorted l → l.drop (placeP l f) = l.filter fun p => !decide (lex p.key f < 0)
  | [], _, _ => rfl
  | a :: l, f, h => by
    by_cases hlt : lex a.key f < 0
    · have e : placeP (a :: l) f = placeP l f + 1 := by simp [placeP, hlt]
      rw [e, List.drop_succ_cons, List.filter_cons, place_drop l f h.tail]
      simp [hlt]
    · have hall : ∀ q ∈ l, ¬ lex q.key f < 0 := fun q hq k => hlt (lex_trans _ _ _ (h.head q hq) k)
      have e : placeP (a :: l) f = 0 := by
        rw [placeP, List.countP_eq_zero]
        intro q hq
        rcases List.mem_cons.1 hq with e | hq
        · rw [e]; simpa using hlt
        · simpa using hall q hq
      rw [e, List.drop_zero, eq_comm, List.filter_eq_self]
      intro q hq
      rcases List.mem_cons.1 hq with e | hq
      · rw [e]; simpa using hlt
      · simpa using hall q hq
theorem placeP_le (l : List PairD) (f : List Int) : placeP l f ≤ l.length := List.countP_le_length
theorem placeP_lt {l : List PairD} {f : List Int} (h : Sorted l) (j : Nat) (p : PairD) (hp : l[j]? = some p) : lex p.key f < 0 ↔ j < placeP l f := by
  induction l generalizing j with
  | nil => simp at hp
  | cons a l ih =>
    by_cases hlt : lex a.key f < 0
    · have e : placeP (a :: l) f = placeP l f + 1 := by simp [placeP, hlt]
      rw [e]
      rcases j with _ | j
      · simp at hp; subst hp; simp [hlt]
      · simp at hp
        rw [ih h.tail j hp]; omega
    · have hall : ∀ q ∈ a :: l, ¬ lex q.key f < 0 := fun q hq k => by
        rcases List.mem_cons.1 hq with e | hq
        · rw [e] at k; exact hlt k
        · exact hlt (lex_trans _ _ _ (h.head q hq) k)
      have e : placeP (a :: l) f = 0 := by
        rw [placeP, List.countP_eq_zero]
        intro q hq
        simpa using hall q hq
      rw [e]
      have := hall p (List.mem_of_getElem? hp)
      omega
theorem preB_iff (pre k : List Int) : preB pre k = true ↔ ∃ s, k = pre ++ s := by
  unfold preB
  simp only [Bool.and_eq_true, decide_eq_true_eq]
  constructor
  · rintro ⟨_, h2⟩
    exact ⟨k.drop pre.length, by have h9 := List.take_append_drop pre.length k; rw [h2] at h9; exact h9.symm⟩
  · rintro ⟨s, rfl⟩
    simp
theorem pre_ge : ∀ (pre s : List Int), ¬ lex (pre ++ s) pre < 0
  | [], s => by cases s <;> simp [lex]
  | a :: pre, s => by simpa [lex] using pre_ge pre s
theorem pre_gap : ∀ (pre s k : List Int), lex k (pre ++ s) < 0 → ¬ lex k pre < 0 → ∃ t, k = pre ++ t
  | [], _, k, _, _ => ⟨k, rfl⟩
  | a :: pre, s, [], _, h => by simp [lex] at h
  | a :: pre, s, b :: k, h, h2 => by
    simp only [List.cons_append, lex] at h h2
    by_cases c1 : b < a
    · rw [if_pos c1] at h2; omega
    · rw [if_neg c1] at h h2
      by_cases c2 : a < b
      · rw [if_pos c2] at h; omega
      · rw [if_neg c2] at h h2
        obtain ⟨t, ht⟩ := pre_gap pre s k h h2
        exact ⟨t, by rw [ht, show b = a by omega]; rfl⟩
theorem pre_while : ∀ (l : List PairD) (pre : List Int), Sorted l → (∀ p ∈ l, ¬ lex p.key pre < 0) → l.takeWhile (fun p => preB pre p.key) = l.filter fun p => preB pre p.key
  | [], _, _, _ => rfl
  | a :: l, pre, h, k => by
    by_cases hp : preB pre a.key = true
    · rw [List.takeWhile_cons, List.filter_cons, if_pos hp, if_pos hp, pre_while l pre h.tail fun p hp => k p (List.mem_cons_of_mem _ hp)]
    · rw [List.takeWhile_cons, List.filter_cons, if_neg hp, if_neg hp, eq_comm, List.filter_eq_nil_iff]
      intro q hq hpq
      obtain ⟨s, hs⟩ := (preB_iff _ _).1 hpq
      have h1 := h.head q hq
      rw [hs] at h1
      exact hp ((preB_iff _ _).2 (pre_gap pre s a.key h1 (k a (by simp))))
def inRange (pre from_ : List Int) (p : PairD) : Bool := preB pre p.key && !decide (lex p.key from_ < 0)
theorem range_eq {l : List PairD} (h : Sorted l) (pre from_ : List Int) (most : Int) : rangeP l pre from_ most = (l.filter (inRange pre from_)).take most.toNat := by
  unfold rangeP
  rw [place_drop l _ h, pre_while _ _ (List.Pairwise.filter _ h), List.filter_filter]
  · congr 1
    apply List.filter_congr
    intro p _
    unfold inRange
    by_cases hp : preB pre p.key = true
    · rw [hp, Bool.true_and, Bool.true_and]
      obtain ⟨s, hs⟩ := (preB_iff _ _).1 hp
      have hge : ¬ lex p.key pre < 0 := by rw [hs]; exact pre_ge pre s
      by_cases hf : lex from_ pre < 0
      · rw [if_pos hf]
        have h2 : ¬ lex p.key from_ < 0 := fun h9 => hge (lex_trans _ _ _ h9 hf)
        simp [hge, h2]
      · rw [if_neg hf]
    · rw [Bool.not_eq_true] at hp
      rw [hp]; rfl
  · intro p hp hlt
    have h2 := (List.mem_filter.1 hp).2
    simp only [Bool.not_eq_true', decide_eq_false_iff_not] at h2
    by_cases hf : lex from_ pre < 0
    · rw [if_pos hf] at h2; exact h2 hlt
    · rw [if_neg hf] at h2
      rcases ge_cases hf with e | e
      · rw [e] at h2; exact h2 hlt
      · exact h2 (lex_trans _ _ _ hlt e)
/-- A key's value, as the document finds it. -/
theorem found_eq {l : List PairD} (h : Sorted l) (key : List Int) :
    (foundP l key = true ∧ ∃ p, l[placeP l key]? = some p ∧ p.key = key ∧ (l.filter (inRange key key)).take 1 = [p]) ∨
    (foundP l key = false ∧ ∀ p, (l.filter (inRange key key)).take 1 = [p] → p.key ≠ key) := by
  have hr := range_eq h key key 1
  have hif : (if lex key key < 0 then key else key) = key := by split <;> rfl
  rw [rangeP, hif] at hr
  have ht : (1 : Int).toNat = 1 := rfl
  rw [ht] at hr
  rw [← hr]
  unfold foundP
  cases hg : l[placeP l key]? with
  | none =>
    right
    refine ⟨rfl, fun p hp => ?_⟩
    rw [List.drop_of_length_le (by simpa using hg)] at hp
    simp at hp
  | some p =>
    obtain ⟨hlt, he⟩ := List.getElem?_eq_some_iff.1 hg
    have hd : l.drop (placeP l key) = p :: l.drop (placeP l key + 1) := by rw [List.drop_eq_getElem_cons hlt, he]
    rw [hd, List.takeWhile_cons]
    by_cases hk : lex p.key key = 0
    · left
      have hpk := lex_zero _ _ hk
      have hpre : preB key p.key = true := (preB_iff _ _).2 ⟨[], by simp [hpk]⟩
      exact ⟨by simp [hk], p, rfl, hpk, by rw [if_pos hpre]; rfl⟩
    · right
      refine ⟨by simp [hk], fun q hq => ?_⟩
      split at hq
      · simp at hq
        rw [← hq]
        intro e
        rw [e, lex_self] at hk
        exact hk rfl
      · simp at hq
end Go.Proofs.Ytjnpkcabkccaoaa
/-
  Keys and values, in plain: a batch as bytes and back; how great it is.
-/
namespace Go.Proofs.Ytjnpkcabkccaoaa
open Go.RowKit

theorem text_app (x rest : List Int) (M : Nat) (hx : x.length ≤ M) (hM : M < 4294967296) : Rd.text ⟨txt x ++ rest, 0⟩ (M : Int) = (x, ⟨rest, 0⟩) := by
  have hp := peek_cnt x.length M (x ++ rest) (by omega) hx
  rw [← List.append_assoc] at hp
  have e : (max (M : Int) 0).toNat = M := by omega
  have h1 : ¬ (txt x ++ rest).length - (cnt x.length).length < x.length := by simp only [txt, List.length_append]; omega
  unfold Rd.text
  rw [show cnt x.length ++ x ++ rest = txt x ++ rest from rfl] at hp
  simp only [e, hp, ne_eq, not_true_eq_false, if_false, h1]
  simp [txt]
theorem flag_app (v : Int) (rest : List Int) (_ : 0 ≤ v) : Rd.fixed ⟨v :: rest, 0⟩ 1 = (v.toNat, ⟨rest, 0⟩) := by
  have h := fixed_append [v] rest 1 rfl (by decide)
  rw [show ([v] ++ rest) = v :: rest from rfl] at h
  rw [h]
  simp [num]
theorem pair_back (p : PairD) (h : p.okB = true) (rest : List Int) : Rd.pair ⟨p.bytes ++ rest, 0⟩ = some (p, ⟨rest, 0⟩) := by
  obtain ⟨_, h2, h3, h4⟩ := (okB_iff p).1 h
  obtain ⟨key, value, gone⟩ := p
  simp only at h2 h3 h4
  cases gone
  · have e : (PairD.bytes ⟨key, value, false⟩ ++ rest) = txt key ++ (1 :: (txt value ++ rest)) := by simp [PairD.bytes]
    rw [e]
    have t1 : Rd.text ⟨txt key ++ (1 :: (txt value ++ rest)), 0⟩ 200 = _ := text_app key (1 :: (txt value ++ rest)) 200 h2 (by decide)
    have t2 := flag_app 1 (txt value ++ rest) (by decide)
    have t3 : Rd.text ⟨txt value ++ rest, 0⟩ 20000 = _ := text_app value rest 20000 h3 (by decide)
    simp [Rd.pair, t1, t2, t3]
  · obtain rfl := h4 rfl
    have e : (PairD.bytes ⟨key, [], true⟩ ++ rest) = txt key ++ (0 :: rest) := by simp [PairD.bytes]
    rw [e]
    have t1 : Rd.text ⟨txt key ++ (0 :: rest), 0⟩ 200 = _ := text_app key (0 :: rest) 200 h2 (by decide)
    have t2 := flag_app 0 rest (by decide)
    simp [Rd.pair, t1, t2]
theorem pairs_back : ∀ (l : List PairD), (∀ p ∈ l, p.okB = true) → ∀ rest, Rd.pairs l.length ⟨l.flatMap PairD.bytes ++ rest, 0⟩ = some (l, ⟨rest, 0⟩)
  | [], _, rest => by simp [Rd.pairs]
  | p :: l, h, rest => by
    rw [List.flatMap_cons, List.append_assoc, List.length_cons, Rd.pairs]
    simp only [ne_eq, not_true_eq_false, if_false]
    rw [pair_back p (h p (by simp))]
    simp only
    rw [pairs_back l (fun q hq => h q (by simp [hq])) rest]
    rfl
theorem parse_back (l : List PairD) (h : rightB l = true) (hl : l.length ≤ 1048576) : parseP (bytesP l) = some l := by
  have hc := count_append l.length 1048576 (l.flatMap PairD.bytes) (by omega) hl
  have hp := pairs_back l (right_ok h) []
  rw [List.append_nil] at hp
  rw [parseP, bytesP, hc]
  simp only
  rw [hp, doneP]
  simp [h]
/-! ### How great -/
def psize (l : List PairD) : Nat := (l.map fun p => p.key.length + p.value.length).sum
theorem psize_cons (p : PairD) (l : List PairD) : psize (p :: l) = p.key.length + p.value.length + psize l := by simp [psize]
theorem psize_append (a b : List PairD) : psize (a ++ b) = psize a + psize b := by simp [psize]
theorem text_size (r : Rd) (M : Int) : (r.text M).1.length + (r.text M).2.rest.length ≤ r.rest.length := by
  unfold Rd.text
  split
  · simp
  · split
    · simp
    · split
      · simp
      · simp only [List.length_take, List.length_drop]; omega
theorem fixed_size (r : Rd) (n : Int) : (r.fixed n).2.rest.length ≤ r.rest.length := by
  unfold Rd.fixed Rd.raw
  simp only
  split
  · simp
  · split
    · simp
    · simp only [List.length_drop]; omega
theorem pair_size (r : Rd) (p : PairD) (r' : Rd) (h : r.pair = some (p, r')) : p.key.length + p.value.length + r'.rest.length ≤ r.rest.length := by
  have h1 := text_size r 200
  have h2 := fixed_size (r.text 200).2 1
  have h3 := text_size ((r.text 200).2.fixed 1).2 20000
  unfold Rd.pair at h
  split at h
  · cases h
  · split at h
    · injection h with h
      injection h with e1 e2
      subst e1; subst e2
      simp only
      omega
    · injection h with h
      injection h with e1 e2
      subst e1; subst e2
      simp only [List.length_nil]
      omega
theorem pairs_size : ∀ (n : Nat) (r : Rd) (l : List PairD) (r' : Rd), Rd.pairs n r = some (l, r') → psize l + r'.rest.length ≤ r.rest.length
  | 0, r, l, r', h => by
    simp [Rd.pairs] at h
    obtain ⟨rfl, rfl⟩ := h
    simp [psize]
  | n + 1, r, l, r', h => by
    unfold Rd.pairs at h
    split at h
    · simp at h
      obtain ⟨rfl, rfl⟩ := h
      simp [psize]
    · split at h
      · cases h
      · rename_i q hq
        cases hz : Rd.pairs n q.2 with
        | none => rw [hz] at h; cases h
        | some z =>
          rw [hz] at h
          simp at h
          obtain ⟨rfl, rfl⟩ := h
          have h1 := pairs_size n q.2 z.1 z.2 hz
          have h2 := pair_size r q.1 q.2 hq
          rw [psize_cons]
          omega
theorem count_size (r : Rd) (m : Nat) : (r.count m).2.rest.length ≤ r.rest.length := by
  unfold Rd.count
  split
  · simp
  · simp only [List.length_drop]; omega
theorem parse_some {b : List Int} {l : List PairD} (h : parseP b = some l) : rightB l = true ∧ psize l ≤ b.length := by
  unfold parseP at h
  have hc := count_size ⟨b, 0⟩ 1048576
  simp only at hc
  cases hz : Rd.pairs (Rd.count ⟨b, 0⟩ 1048576).1 (Rd.count ⟨b, 0⟩ 1048576).2 with
  | none => rw [hz] at h; cases h
  | some z =>
    rw [hz, doneP] at h
    have h1 := pairs_size _ _ z.1 z.2 hz
    split at h
    · cases h
    · rename_i hn
      injection h with h
      subst h
      simp only [not_or, Bool.not_eq_false] at hn
      exact ⟨hn.2.2, by omega⟩
theorem right_len {l : List PairD} (h : rightB l = true) : l.length ≤ psize l := by
  have key : ∀ m : List PairD, (∀ p ∈ m, p.okB = true) → m.length ≤ psize m := by
    intro m
    induction m with
    | nil => simp [psize]
    | cons p m ih =>
      intro hm
      have h1 := ih fun q hq => hm q (by simp [hq])
      have h2 := ((okB_iff p).1 (hm p (by simp))).1
      rw [psize_cons, List.length_cons]
      omega
  exact key l (right_ok h)
theorem merge_size : ∀ (l c : List PairD), psize (mergeD l c) ≤ psize l + psize c := by
  intro l c
  induction l, c using mergeD.induct with
  | case1 l => rw [mergeD]; omega
  | case2 c cs ih =>
    rw [mergeD, psize_append, psize_cons]
    have : psize (if c.gone = true then [] else [c]) ≤ c.key.length + c.value.length := by split <;> simp [psize]
    omega
  | case3 p l c cs hlt ih =>
    rw [mergeD, if_pos hlt, psize_cons, psize_cons]
    omega
  | case4 p l c cs hlt ih =>
    rw [mergeD, if_neg hlt, psize_append, psize_cons (p := c), psize_cons]
    have h1 : psize (if c.gone = true then [] else [c]) ≤ c.key.length + c.value.length := by split <;> simp [psize]
    have h2 : psize (restP p l c) ≤ p.key.length + p.value.length + psize l := by
      unfold restP
      split
      · omega
      · rw [psize_cons]; omega
    omega
theorem toldR_some : ∀ (bs : List (List Int)) (out l : List PairD), rightB out = true → goneIn out = false → toldR out bs = some l → rightB l = true ∧ goneIn l = false ∧ psize l ≤ psize out + (bs.map List.length).sum
  | [], out, l, h, k, e => by
    simp [toldR] at e
    subst e
    exact ⟨h, k, by simp⟩
  | b :: bs, out, l, h, k, e => by
    unfold toldR at e
    cases hp : parseP b with
    | none => rw [hp] at e; cases e
    | some m =>
      rw [hp] at e
      simp only at e
      obtain ⟨p1, p2⟩ := parse_some hp
      obtain ⟨q1, q2, q3⟩ := toldR_some bs (mergeD out m) l (mergeD_right h p1) (mergeD_here m k) e
      have := merge_size out m
      refine ⟨q1, q2, ?_⟩
      simp only [List.map_cons, List.sum_cons]
      omega
theorem toldL_some (bs : List (List Int)) : rightB (toldL bs).1 = true ∧ goneIn (toldL bs).1 = false ∧ psize (toldL bs).1 ≤ (bs.map List.length).sum := by
  have h0 : rightB [] = true ∧ goneIn [] = false ∧ psize [] = 0 := ⟨rfl, rfl, rfl⟩
  cases bs with
  | nil => exact ⟨rfl, rfl, Nat.zero_le _⟩
  | cons b bs =>
    have e : toldL (b :: bs) = match parseP b with | none => ([], 151) | some l => if goneIn l then ([], 151) else orErr (toldR l bs) := rfl
    rw [e]
    cases hp : parseP b with
    | none => exact ⟨rfl, rfl, Nat.zero_le _⟩
    | some m =>
      obtain ⟨p1, p2⟩ := parse_some hp
      simp only
      by_cases hg : goneIn m = true
      · rw [if_pos hg]; exact ⟨rfl, rfl, Nat.zero_le _⟩
      · rw [if_neg hg]
        cases hr : toldR m bs with
        | none => exact ⟨rfl, rfl, Nat.zero_le _⟩
        | some l =>
          obtain ⟨q1, q2, q3⟩ := toldR_some bs m l p1 (by simpa using hg) hr
          refine ⟨q1, q2, ?_⟩
          show psize l ≤ _
          simp only [List.map_cons, List.sum_cons]
          omega
theorem bytes_one (p : PairD) : p.bytes.length ≤ p.key.length + p.value.length + 20 := by
  have h1 := (cnt_length p.key.length).2
  have h2 := (cnt_length p.value.length).2
  unfold PairD.bytes txt
  split <;> simp only [List.length_append, List.length_cons, List.length_nil] <;> omega
theorem flat_len (l : List PairD) : (l.flatMap PairD.bytes).length ≤ psize l + 20 * l.length := by
  induction l with
  | nil => simp [psize]
  | cons p l ih =>
    have := bytes_one p
    rw [List.flatMap_cons, List.length_append, psize_cons, List.length_cons]
    omega
theorem bytesP_len (l : List PairD) : (bytesP l).length ≤ 9 + psize l + 20 * l.length := by
  have h1 := (cnt_length l.length).2
  have h2 := flat_len l
  rw [bytesP, List.length_append]
  omega
theorem tbytes_len (l : List PairD) : (tbytes l).1.length ≤ 9 + psize l + 20 * l.length := by
  unfold tbytes
  split
  · exact bytesP_len l
  · simp
theorem bodies_sum : ∀ (k : Nat) (b : List Int) (kd : Int) (s : List Int), ((bodies k b kd s).map List.length).sum ≤ b.length
  | 0, b, kd, s => by simp [bodies]
  | k + 1, b, kd, s => by
    rw [bodies]
    split
    · simp
    · cases hn : nextR b kd s with
      | none => simp
      | some q =>
        obtain ⟨body, t⟩ := q
        have h1 := nextR_fits hn
        have h2 := bodies_sum k (b.drop (slabsN (body.length : Int) * 120)) 2 t
        have h3 := slabsN_nat body.length h1.2.1
        simp only [List.map_cons, List.sum_cons]
        rw [List.length_drop] at h2
        omega
theorem areaFrom_le (d : Dev) (half mark : Nat) : ∀ (k i : Nat), (areaFrom d half mark k i).length ≤ 120 * k
  | 0, _ => by simp [areaFrom]
  | k + 1, i => by
    rw [areaFrom]
    split
    · have := areaFrom_le d half mark k (i + 1)
      rw [List.length_append, List.length_take]
      omega
    · simp
theorem stands_sum (d : Dev) (half : Nat) (hg : d.Good) : (((stands d half).2).map List.length).sum ≤ 245760 := by
  unfold stands
  split
  · simp
  · have h1 := bodies_sum ((area d half (header d half).1).length + 1) (area d half (header d half).1) 1 (header d half).2
    have h2 := areaFrom_le d half (header d half).1 (d.room - 1) 1
    have h3 : d.room ≤ 2048 := by have := hg.few; unfold Dev.room; omega
    simp only
    unfold area at h1 ⊢
    omega
theorem openL_sum (d : Dev) (hg : d.Good) : ((openL d).2.map List.length).sum ≤ 245760 := by
  unfold openL
  split
  · exact stands_sum d 0 hg
  · exact stands_sum d 1 hg
theorem toldT_some (d : Dev) (hg : d.Good) : rightB (toldT d).1 = true ∧ goneIn (toldT d).1 = false ∧ psize (toldT d).1 ≤ 245760 := by
  obtain ⟨h1, h2, h3⟩ := toldL_some (openL d).2
  exact ⟨h1, h2, Nat.le_trans h3 (openL_sum d hg)⟩
end Go.Proofs.Ytjnpkcabkccaoaa
/-
  Keys and values, in plain: what a log's calls leave of a device: bytes, how many writes; a table that is in order.
-/
namespace Go.Proofs.Ytjnpkcabkccaoaa
open Go.RowKit

theorem writeC_kept (mark : Nat) : ∀ (cs : List (List Int)) (d : Dev) (pos : Int), (writeC d pos mark cs).1.kept.length = d.kept.length
  | [], _, _ => rfl
  | c :: l, d, pos => by
    rw [writeC]
    split
    · exact write_kept _ _ _
    · rw [writeC_kept mark l, write_kept]
/-- What a call leaves: a device of bytes, of the same size; how many writes more. -/
structure Grew (d d' : Dev) (k : Nat) : Prop where
  bytes : d.Bytes → d'.Bytes
  size : d'.kept.length = d.kept.length
  many : d'.written.length ≤ d.written.length + k
theorem Grew.refl (d : Dev) (k : Nat) : Grew d d k := ⟨fun h => h, rfl, by omega⟩
theorem Grew.trans {a b c : Dev} {j k : Nat} (h : Grew a b j) (g : Grew b c k) : Grew a c (j + k) := ⟨fun x => g.bytes (h.bytes x), g.size.trans h.size, by have := h.many; have := g.many; omega⟩
theorem Grew.mono {a b : Dev} {j k : Nat} (h : Grew a b j) (hk : j ≤ k) : Grew a b k := ⟨h.bytes, h.size, by have := h.many; omega⟩
theorem Grew.room {a b : Dev} {j : Nat} (h : Grew a b j) : b.room = a.room := by rw [Dev.room, Dev.room, h.size]
theorem writeL_grew (d : Dev) (half : Nat) (at_ : Int) (b : List Int) (mark : Nat) (hb : Byt b) (hl : b.length ≤ 100037) : Grew d (writeL d half at_ b mark).1 834 := by
  have h1 := writeC_many mark (chunks b) d ((half : Int) * (d.room : Int) + at_)
  have h2 := chunks_count b
  exact ⟨fun h => writeC_bytes mark (chunks b) d _ h (chunks_byt hb), writeC_kept _ _ _ _, by rw [writeL]; omega⟩
theorem sync_grew (d : Dev) : Grew d d.sync.1 0 := by
  refine ⟨fun h => h.sync, ?_, ?_⟩
  · unfold Dev.sync
    split
    · rfl
    · show (over d.kept d.written).length = _
      rw [over_length]
  · unfold Dev.sync
    split
    · exact Nat.le_refl _
    · simp
theorem limit_grew (d : Dev) (n : Int) : Grew d (d.limit n) 0 := ⟨fun h => h.limit n, rfl, Nat.le_refl _⟩
theorem restart_grew (d : Dev) (bs : List Int) : Grew d (d.restart bs) 0 := ⟨fun h => h.restart bs, by show (lossy _ _ _ _).length = _; rw [lossy_length], Nat.zero_le _⟩
theorem addL_grew (d : Dev) (l : LogD) (b : List Int) (hb : Byt b) : Grew d (addL d l b).1 900 := by
  unfold addL
  split
  · exact Grew.refl _ _
  · split
    · exact Grew.refl _ _
    · rename_i h
      have h9 := (writeL_grew d l.half l.at_ (boundB 2 b l.ward) l.mark (boundB_byt (by decide) hb) (by rw [boundB_len]; omega)).mono (show 834 ≤ 900 by decide)
      simp only
      split <;> exact h9
theorem syncL_grew (d : Dev) (l : LogD) : Grew d (syncL d l).1 0 := by
  unfold syncL
  split
  · exact Grew.refl _ _
  · exact sync_grew d
theorem beginL_grew (d : Dev) (l : LogD) (b : List Int) (hb : Byt b) : Grew d (beginL d l b).1 1700 := by
  unfold beginL
  split
  · exact Grew.refl _ _
  · rename_i h
    have hf : b.length ≤ 100000 := by
      have h1 : fitsB d b.length = true := by
        cases hq : fitsB d b.length
        · exact absurd (.inl hq) h
        · rfl
      rw [fitsB] at h1
      simp only [Bool.and_eq_true, decide_eq_true_eq] at h1
      omega
    have g1 := writeL_grew d (1 - l.half) 0 (sealedB (topL d + 1)) (topL d + 1) (sealedB_byt _) (by rw [sealedB_len]; decide)
    have g2 := writeL_grew (writeL d (1 - l.half) 0 (sealedB (topL d + 1)) (topL d + 1)).1 (1 - l.half) 1 (boundB 1 b (sealB (topL d + 1))) (topL d + 1) (boundB_byt (by decide) hb) (by rw [boundB_len]; omega)
    simp only
    split
    · exact g1.mono (by decide)
    · split
      · exact (g1.trans g2).mono (by decide)
      · split
        · exact ((g1.trans g2).trans (sync_grew _)).mono (by decide)
        · exact ((g1.trans g2).trans (sync_grew _)).mono (by decide)
theorem keepL_grew (d : Dev) (l : LogD) (a b : List Int) (ha : Byt a) (hb : Byt b) : Grew d (keepL d l a b).1 2600 := by
  have h1 := addL_grew d l a ha
  unfold keepL
  simp only
  split
  · exact (h1.trans (syncL_grew _ _)).mono (by decide)
  · split
    · exact h1.trans (beginL_grew _ _ _ hb)
    · exact h1.mono (by decide)
/-! ### Where a log stands -/
def LogD.In (l : LogD) : Prop := 0 ≤ l.at_ ∧ l.at_ ≤ 4096
theorem openAt_in (h : Nat) : (openAt h).In := ⟨Int.le_refl 0, by show (0 : Int) ≤ 4096; decide⟩
theorem addL_in (d : Dev) (l : LogD) (b : List Int) (hl : l.In) (hr : d.room ≤ 2048) : (addL d l b).2.1.In := by
  unfold addL
  split
  · exact hl
  · rename_i hready
    split
    · exact hl
    · rename_i h
      simp only
      split
      · exact hl
      · refine ⟨?_, ?_⟩
        · show 0 ≤ l.at_ + _
          have := hl.1
          omega
        · show l.at_ + _ ≤ 4096
          have hrd : l.ready = true := by simpa using hready
          rw [leftL, hrd] at h
          simp only [if_true] at h
          omega
theorem syncL_in (d : Dev) (l : LogD) (hl : l.In) : (syncL d l).2.1.In := by
  unfold syncL
  split
  · exact hl
  · exact hl
theorem fits_room {d : Dev} {n : Nat} (h : fitsB d n = true) : n ≤ 100000 ∧ 1 + slabsN (n : Int) ≤ d.room := by
  rw [fitsB] at h
  simp only [Bool.and_eq_true, decide_eq_true_eq] at h
  omega
theorem beginL_in (d : Dev) (l : LogD) (b : List Int) (hl : l.In) (hr : d.room ≤ 2048) : (beginL d l b).2.1.In := by
  unfold beginL
  split
  · exact hl
  · rename_i h
    have h1 : fitsB d b.length = true := by
      cases hq : fitsB d b.length
      · exact absurd (.inl hq) h
      · rfl
    have h2 := fits_room h1
    simp only
    split
    · exact hl
    · split
      · exact hl
      · split
        · exact hl
        · refine ⟨?_, ?_⟩
          · show 0 ≤ 1 + (slabsN (b.length : Int) : Int); omega
          · show 1 + (slabsN (b.length : Int) : Int) ≤ 4096; omega
theorem beginL_fits (d : Dev) (l : LogD) (b : List Int) (h : (beginL d l b).2.2 = 0) : fitsB d b.length = true := by
  cases hq : fitsB d b.length
  · rw [beginL, if_pos (.inl hq)] at h
    cases h
  · rfl
theorem keepL_in (d : Dev) (l : LogD) (a b : List Int) (hl : l.In) (hr : d.room ≤ 2048) (ha : Byt a) : (keepL d l a b).2.1.In := by
  have h1 := addL_in d l a hl hr
  have h2 := (addL_grew d l a ha).room
  unfold keepL
  simp only
  split
  · exact syncL_in _ _ h1
  · split
    · exact beginL_in _ _ _ h1 (by omega)
    · exact h1
/-! ### A table in order -/
theorem psize_bytes {l : List PairD} (h : rightB l = true) : psize l ≤ (tbytes l).1.length := by
  have key : ∀ m : List PairD, (∀ p ∈ m, p.okB = true) → psize m ≤ (m.flatMap PairD.bytes).length := by
    intro m
    induction m with
    | nil => simp [psize]
    | cons p m ih =>
      intro hm
      have h1 := ih fun q hq => hm q (by simp [hq])
      have h2 := ((okB_iff p).1 (hm p (by simp))).2.2.2
      rw [psize_cons, List.flatMap_cons, List.length_append]
      have h3 : p.key.length + p.value.length ≤ p.bytes.length := by
        unfold PairD.bytes txt
        cases hg : p.gone
        · simp only [Bool.false_eq_true, if_false, List.length_append, List.length_cons]; omega
        · rw [h2 hg]; simp only [if_true, List.length_append, List.length_cons, List.length_nil]; omega
      omega
  rw [tbytes, if_pos h, bytesP, List.length_append]
  have := key l (right_ok h)
  omega
def Byts (l : List PairD) : Prop := ∀ p ∈ l, Byt p.key ∧ Byt p.value
theorem txt_byt {b : List Int} (h : Byt b) : Byt (txt b) := byt_append (cnt_byt _) h
theorem bytes_byt {l : List PairD} (h : Byts l) : Byt (tbytes l).1 := by
  unfold tbytes
  split
  · refine byt_append (cnt_byt _) fun x hx => ?_
    obtain ⟨p, hp, hx⟩ := List.mem_flatMap.1 hx
    refine (byt_append (txt_byt (h p hp).1) ?_) x hx
    split
    · intro y hy; rw [List.mem_singleton.1 hy]; decide
    · intro y hy
      rcases List.mem_cons.1 hy with e | hy
      · rw [e]; decide
      · exact txt_byt (h p hp).2 y hy
  · exact Byt.nil
structure TableD.Ok (t : TableD) : Prop where
  log : t.log.In
  right : rightB t.pairs = true
  here : goneIn t.pairs = false
  size : psize t.pairs ≤ 300000
theorem openT_some {d : Dev} (hg : d.Good) {t : TableD} (h : (openT d).2.1 = some t) : t.Ok ∧ (openT d).2.2 = 0 := by
  unfold openT at h ⊢
  split at h
  · cases h
  · rename_i h0
    simp only at h ⊢
    split at h
    · cases h
    · rename_i h1
      rw [if_neg h0, if_neg h1]
      injection h with h
      subst h
      obtain ⟨r1, r2, r3⟩ := toldT_some d hg
      have hr : d.room ≤ 2048 := by have := hg.few; unfold Dev.room; omega
      exact ⟨⟨beginL_in _ _ _ (openAt_in _) hr, r1, r2, by show psize (toldT d).1 ≤ _; omega⟩, rfl⟩
theorem applyT_ok {d : Dev} {t : TableD} {l : List PairD} (h : t.Ok) (hr : d.room ≤ 2048) (hl : Byts l) : (applyT d t l).2.1.Ok := by
  unfold applyT
  split
  · exact h
  · split
    · exact h
    · rename_i h0
      split
      · exact h
      · rename_i hf
        have hf' : fitsB d (tbytes (mergeD t.pairs l)).1.length = true := by simpa using hf
        have hrl : rightB l = true := by
          cases hq : rightB l
          · exfalso; apply h0; left; unfold tbytes; rw [hq]; simp
          · rfl
        have hm := mergeD_right h.right hrl
        refine ⟨keepL_in _ _ _ _ h.log hr (bytes_byt hl), ?_, ?_, ?_⟩
        · show rightB (if _ then _ else _) = true
          split
          · exact hm
          · exact h.right
        · show goneIn (if _ then _ else _) = false
          split
          · exact mergeD_here l h.here
          · exact h.here
        · show psize (if _ then _ else _) ≤ 300000
          split
          · have h1 := psize_bytes hm
            have h2 := (fits_room hf').1
            omega
          · exact h.size
theorem mergeD_byts {l c : List PairD} (h : Byts l) (k : Byts c) : Byts (mergeD l c) := fun p hp => by
  rcases mem_or _ _ _ hp with hp | hp
  · exact h p hp
  · exact k p hp.1
theorem applyT_grew (d : Dev) (t : TableD) (l : List PairD) (hp : Byts t.pairs) (hl : Byts l) : Grew d (applyT d t l).1 2600 := by
  unfold applyT
  split
  · exact Grew.refl _ _
  · split
    · exact Grew.refl _ _
    · split
      · exact Grew.refl _ _
      · exact keepL_grew _ _ _ _ (bytes_byt hl) (bytes_byt (mergeD_byts hp hl))
theorem openT_grew (d : Dev) (h : Byts (toldT d).1) : Grew d (openT d).1 1700 := by
  unfold openT
  split
  · exact Grew.refl _ _
  · have h1 := beginL_grew d (openAt (openL d).1) _ (bytes_byt h)
    simp only
    split
    · exact h1
    · exact h1
end Go.Proofs.Ytjnpkcabkccaoaa
/-
  Keys and values, in plain: the chapter's example.
-/
namespace Go.Proofs.Ytjnpkcabkccaoaa
open Go.RowKit

def pA : PairD := ⟨[97], [49], false⟩
theorem told_new (n : Int) : toldT (newDev n) = ([], 0) := by rw [toldT, new_open]; rfl
theorem Dev.Calm.again {d : Dev} (h : d.Calm) (hw : d.written = []) : d.restart [] = d := by
  obtain ⟨_, hb, hd⟩ := h
  cases d with
  | mk k s w b dn =>
    simp only at hb hd hw
    subst hb; subst hd; subst hw
    rfl
theorem table_alive : ∃ (d1 d2 d3 : Dev) (l1 l2 l3 : LogD), openT (newDev 20) = (d1, some ⟨l1, []⟩, 0) ∧ applyT d1 ⟨l1, []⟩ [pA] = (d2, ⟨l2, [pA]⟩, 0) ∧ d2.restart [] = d2 ∧ openT d2 = (d3, some ⟨l3, [pA]⟩, 0) ∧ l3.ready = true := by
  have hgood := newDev_good 20
  have hc0 := new_calm hgood
  have hr0 : (newDev 20).room = 10 := rfl
  have hb0 : (tbytes []).1 = [0] := by decide
  obtain ⟨d1, l1, e1, _, hw1, st1, hk1, hh1, hm1, ha1⟩ := begin_stand (d := newDev 20) (l := openAt 1) (b := (tbytes []).1) hc0 (by decide) (by rw [hb0]; decide) (by rw [new_top]; decide)
  have hr1 : d1.room = 10 := by rw [room_of hk1, hr0]
  have ho1 : openT (newDev 20) = (d1, some ⟨l1, []⟩, 0) := by
    rw [openT, told_new, new_open]
    simp only
    rw [e1]
    simp
  have hcb : (tbytes [pA]).1 = [1, 1, 97, 1, 1, 49] := by decide
  have hc2 : (tbytes [pA]).2 = 0 := by decide
  have hmg : mergeD [] [pA] = [pA] := by rw [mergeD, mergeD]; rfl
  obtain ⟨d2, l2, e2, _, st2, hk2, hh2, hm2, ha2⟩ := st1.add (tbytes [pA]).1 (by rw [hcb]; decide) (by rw [ha1, hr1, hcb, hb0]; decide)
  obtain ⟨d3, e3, hd3, st3, hk3⟩ := st2.sync
  have hr2 : d2.room = 10 := by rw [room_of hk2, hr1]
  have hr3 : d3.room = 10 := by rw [room_of hk3, hr2]
  have hw3 : d3.written = [] := by rw [hd3]; exact st2.calm.sync_written
  have hkp : keepL d1 l1 (tbytes [pA]).1 (tbytes [pA]).1 = (d3, l2, 0) := by
    unfold keepL
    simp only [e2, if_true]
    exact e3
  have hap : applyT d1 ⟨l1, []⟩ [pA] = (d3, ⟨l2, [pA]⟩, 0) := by
    unfold applyT
    simp only [hmg]
    rw [if_neg (by rw [st1.ready]; decide), if_neg (by rw [hc2]; simp), if_neg (by rw [fitsB, hr1, hcb]; decide), hkp]
    simp
  have hop : openL d3 = (l2.half, [(tbytes []).1] ++ [(tbytes [pA]).1]) := st3.opens
  have hpa : parseP (tbytes []).1 = some [] := parse_back [] rfl (by decide)
  have hpb : parseP (tbytes [pA]).1 = some [pA] := parse_back [pA] (by decide) (by decide)
  have hto : toldT d3 = ([pA], 0) := by
    rw [toldT, hop]
    show toldL ((tbytes []).1 :: [(tbytes [pA]).1]) = _
    have e : toldL ((tbytes []).1 :: [(tbytes [pA]).1]) = match parseP (tbytes []).1 with | none => ([], 151) | some l => if goneIn l then ([], 151) else orErr (toldR l [(tbytes [pA]).1]) := rfl
    rw [e, hpa]
    simp only
    rw [if_neg (by decide), toldR, hpb]
    simp only
    rw [hmg, toldR]
    rfl
  have hmk : topL d3 < mostGen := by
    have h1 := st3.top
    rw [hm2, hm1, new_top] at h1
    have h2 : (1 : Nat) < mostGen := by decide
    omega
  obtain ⟨d4, l4, e4, _, _, st4, _, _, _, _⟩ := begin_stand (d := d3) (l := openAt l2.half) (b := (tbytes [pA]).1) st3.calm st3.half (by rw [fitsB, hr3, hcb]; decide) hmk
  refine ⟨d1, d3, d4, l1, l2, l4, ho1, hap, st3.calm.again hw3, ?_, st4.ready⟩
  rw [openT, hto, hop]
  simp only
  rw [e4]
  simp
theorem room_zero : (newDev 1).room = 0 := by decide
theorem open_small : openT (newDev 1) = (newDev 1, none, 142) := by
  rw [openT, told_new, new_open]
  simp only
  have h : beginL (newDev 1) (openAt 1) (tbytes []).1 = (newDev 1, openAt 1, 142) := by
    rw [beginL, if_pos (.inl (by rw [fitsB, room_zero]; decide))]
  rw [h]
  simp
end Go.Proofs.Ytjnpkcabkccaoaa
