import Derived.Test.YtbpmcnfmgaolnaaPk5
/-
  tx: transactions, read.
-/
namespace Go.Proofs.Ytbpmcnfmgaolnaa
open Go.RowKit

set_option maxHeartbeats 1000000 in
set_option maxRecDepth 100000 in
theorem word_any (w : World) (g h : Nat) (r : Rd) (hR : RdAt 164 w g h r) :
    Calls Try.prog 119 #[.pointer (some ⟨g, 0, none⟩)] w fun e w' => e = .returned (.int .u32 ((r.fixed 4).1 : Int)) ∧ RdAt 164 w' g h (r.fixed 4).2 ∧ Only (fun i => i = g) w w' := by
  have hF := fixed_u32 r (by obtain ⟨_, _, _, _, hB2, _⟩ := hR; exact hB2.2.1)
  have hw : IntKind.u32.wrap ((r.fixed 4).1 : Int) = ((r.fixed 4).1 : Int) := by rw [IntKind.wrap_u32]; omega
  go_enter Try.func119, Try.ntmps119
  go_wp2_with fail
  refine (RFixed_any _ g h _ 4 hR).mono ?_
  rintro e w1 ⟨rfl, hR1, o1⟩
  go_wp2_with fail
  go_ret
  exact ⟨rfl, hR1, o1⟩
def txcells (V : Int) (iA : Option Addr) (iN iC : Nat) (oA : Option Addr) (oN oC : Nat) (U : Int) : List Value := [.int .u32 V, .slice iA iN iC, .slice oA oN oC, .int .u32 U]
def TxPost (T : TypeId) (w : World) (g h : Nat) (r' : Rd) (d : TxD) (e : Ending) (w' : World) : Prop :=
  ∃ V : TxV, e = .returned (.agg V.cells.toArray) ∧ V.d = d ∧ (∀ w'', Only (fun i => i < w.heap.size) w' w'' → V.Fine w'') ∧ V.Small ∧ RdAt T w' g h r' ∧ Only (fun i => i = g) w w'
def mkIn (parts : Array (Nat × Value)) : Sem Value := Instr.build 60 parts
theorem mkIn_fold (parts : Array (Nat × Value)) : Instr.build 60 parts = mkIn parts := rfl
theorem mkIn_run (d : RefD) (hd : d.Fine) (A : Option Addr) (n c : Nat) (bs : List Int) (u : Int) (w : World) : (mkIn #[(0, .agg d.cells.toArray), (1, .slice A n c), (2, .int .u32 u)]).run Try.prog w = .ok (.agg (⟨d, A, n, c, bs, u⟩ : InV).cells.toArray) w := by
  have := run_build3 (P := Try.prog) 60 _ _ _ 33 1 1 Try.underlying60 rfl rfl rfl (by kernel_rfl) (by kernel_rfl) (by kernel_rfl) (by kernel_rfl) (.agg d.cells.toArray) (.slice A n c) (.int .u32 u) d.cells [.slice A n c] [.int .u32 u] rfl rfl rfl (RefD.cells_len hd) rfl rfl w
  rw [mkIn, this]
  simp [InV.cells]
def mkIns (parts : Array (Nat × Value)) : Sem Value := Instr.buildSlice 34 1 parts
theorem mkIns_fold (parts : Array (Nat × Value)) : Instr.buildSlice 34 1 parts = mkIns parts := rfl
theorem mkIns_run (w : World) (a : InV) (h : a.ref.Fine) : (mkIns #[(0, .agg a.cells.toArray)]).run Try.prog w = .ok (.slice (some ⟨w.heap.size, 0, none⟩) 1 1) (w.alloc (.cells a.cells.toArray 60)) :=
  run_buildSlice_one 34 60 35 Try.underlying34 isIn (by kernel_rfl) (by decide) (by decide) a.cells (InV.cells_len h) w
theorem text_most (r : Rd) (M : Int) (h0 : 0 ≤ M) : ((r.text M).1.length : Int) ≤ M := by
  unfold Rd.text
  have hp := peek_most r.rest (max M 0).toNat
  split
  · simpa using h0
  · split
    · simpa using h0
    · split
      · simpa using h0
      · simp only [List.length_take]
        omega
/-- The inputs read so far. -/
structure InsAt (T : TypeId) (w3 ws : World) (g h tv V : Nat) (r2 : Rd) (j : Nat) (xs : List InV) (iA : Option Addr) (iC : Nat) : Prop where
  len : xs.length = j
  data : xs.map InV.d = (Rd.rep Rd.inn j r2).1
  rd : RdAt T ws g h (Rd.rep Rd.inn j r2).2
  blk : Blk ws tv 37 (txcells V iA j iC none 0 0 0)
  cap : j ≤ iC
  row : ws.ownsRow w3.heap.size 60 35 (.slice iA j iC) j (xs.flatMap InV.cells)
  keep : ∀ a ∈ xs, KeepI ws a (fun i => i < w3.heap.size ∨ (Value.slice iA j iC).ownBlock = some i)
  small : ∀ a ∈ xs, a.n ≤ 2000
  only : Only (fun i => i = g ∨ i = tv) w3 ws
theorem InsAt.drew {T : TypeId} {w3 ws : World} {g h tv V : Nat} {r2 : Rd} {j : Nat} {xs : List InV} {iA : Option Addr} {iC : Nat} (h0 : InsAt T w3 ws g h tv V r2 j xs iA iC) : InsAt T w3 ws.drew g h tv V r2 j xs iA iC :=
  ⟨h0.len, h0.data, h0.rd.drew, h0.blk, h0.cap, h0.row, fun a ha => (h0.keep a ha).step (Only.refl _ ws).drew (fun _ _ h => h), h0.small, h0.only.drew⟩
theorem InsAt.next' {T : TypeId} {F : Nat → Prop} {w3 wa wb wc wd w9 : World} {o : Obj} {g h tv V : Nat} {r2 r3 : Rd} {j : Nat} {xs : List InV} {iA : Option Addr} {iC : Nat} {Ac A9 : Option Addr} {nc cc c9 : Nat} {a : InV}
    (hI : InsAt T w3 wa g h tv V r2 j xs iA iC) (hr3 : r3 = (Rd.rep Rd.inn j r2).2) (hab : wa.heap.size ≤ wb.heap.size) (hbc : wb.heap.size ≤ wc.heap.size) (od : Only F wc wd) (hFo : ∀ i, F i → i < wb.heap.size)
    (hBc : Bys wc Ac nc (r3.ref.2.text 2000).1) (hfc : Fr wb Ac) (hcc : nc ≤ cc) (hrf : r3.ref.1.Fine) (hF : ((r3.ref.2.text 2000).2.fixed 4).1 < 4294967296)
    (hae : a = ⟨r3.ref.1, Ac, nc, cc, (r3.ref.2.text 2000).1, (((r3.ref.2.text 2000).2.fixed 4).1 : Int)⟩)
    (hOc : Only (fun i => i = g) wa (wd.alloc o)) (hRd : RdAt T (wd.alloc o) g h ((r3.ref.2.text 2000).2.fixed 4).2)
    (q1 : w9.ownsRow w3.heap.size 60 35 (.slice A9 (j + 1) c9) (j + 1) (xs.flatMap InV.cells ++ a.cells)) (q2 : j + 1 ≤ c9)
    (q3 : ∀ q, (Value.slice A9 (j + 1) c9).ownBlock = some q → (Value.slice iA j iC).ownBlock = some q ∨ (wd.alloc o).heap.size ≤ q) (q4 : Only (fun i => (Value.slice iA j iC).ownBlock = some i) (wd.alloc o) w9)
    (hg : g < w3.heap.size) (hh : h < w3.heap.size) (htv : tv < w3.heap.size) (hne : tv ≠ g) (hnh : tv ≠ h) :
    InsAt T w3 (w9.setCell ⟨tv, 1, none⟩ (.slice A9 (j + 1) c9)) g h tv V r2 (j + 1) (xs ++ [a]) A9 c9 := by
  have hown := hI.row.lt
  have hown9 := q1.lt
  have hs := hI.only.size
  have hsd : wa.heap.size ≤ wd.heap.size := Nat.le_trans hab (Nat.le_trans hbc od.size)
  have hsa : (wd.alloc o).heap.size = wd.heap.size + 1 := by simp
  have hc9 := Only.cell1 w9 tv 1 (.slice A9 (j + 1) c9)
  have hnow : ∀ i, i < w3.heap.size → ¬ (Value.slice iA j iC).ownBlock = some i := fun i hi e => by have := (hown i e).1; omega
  have hall : Only (fun i => i < w3.heap.size ∨ (Value.slice iA j iC).ownBlock = some i) wa (w9.setCell ⟨tv, 1, none⟩ (.slice A9 (j + 1) c9)) :=
    ((hOc.mono (fun i _ h => .inl (by have h9 : i = g := h; omega))).trans q4 (fun _ _ h => .inr h)).trans hc9 (fun i _ h => .inl (by have h9 : i = tv := h; omega))
  have hap : ∀ F : Nat → Prop, (∀ i, F i → i < wb.heap.size) → Apart Ac nc F := fun F hF _ ad e hf => by have := hfc ad e; have := hF _ hf; omega
  have hB9 : Bys (w9.setCell ⟨tv, 1, none⟩ (.slice A9 (j + 1) c9)) Ac nc (r3.ref.2.text 2000).1 :=
    (((hBc.keep od (hap _ hFo)).alloc o).keep q4 (hap _ (fun i e => by have := (hown i e).2; omega))).keep hc9 (hap _ (fun i e => by have h9 : i = tv := e; omega))
  refine ⟨by simp [hI.len], ?_, ?_, ?_, q2, ?_, fun b hb => ?_, fun b hb => ?_, ?_⟩
  · rw [List.map_append, hI.data, Rd.rep, ← hr3, hae]
    rfl
  · have : (Rd.rep Rd.inn (j + 1) r2).2 = ((r3.ref.2.text 2000).2.fixed 4).2 := by rw [Rd.rep, ← hr3]; rfl
    rw [this]
    exact (hRd.keep q4 (hnow g hg) (hnow h hh)).keep hc9 (fun e => hne e.symm) (fun e => hnh e.symm)
  · exact (q4.blk (hOc.blk hI.blk hne) (hnow tv htv)).set_ 1 _
  · have e : (xs ++ [a]).flatMap InV.cells = xs.flatMap InV.cells ++ a.cells := by simp
    rw [e]
    exact hc9.own q1 (fun q hq e => by have := (hown9 q hq).1; have h9 : q = tv := e; omega)
  · rcases List.mem_append.1 hb with hb | hb
    · refine (hI.keep b hb).step hall (fun i hi hf => ?_)
      rcases hf with hf | hf
      · exact .inl hf
      · rcases q3 i hf with h1 | h1
        · exact .inr h1
        · omega
    · obtain rfl : b = a := by simpa using hb
      refine KeepI.mk (hae ▸ ⟨hrf, hB9, hcc, by show (0 : Int) ≤ _ ∧ _; simp only; omega⟩) (fun hn ad e hf => ?_)
      have e1 : Ac = some ad := by rw [hae] at e; exact e
      have hn1 : 0 < nc := by rw [hae] at hn; exact hn
      have h1 := hfc ad e1
      have h2 := hBc.lt hn1 ad e1
      have h3 := od.size
      rcases hf with hf | hf
      · omega
      · rcases q3 _ hf with h5 | h5
        · have := (hown _ h5).2; omega
        · omega
  · rcases List.mem_append.1 hb with hb | hb
    · exact hI.small b hb
    · obtain rfl : b = a := by simpa using hb
      have h1 := text_most r3.ref.2 2000 (by decide)
      have h2 := hBc.1
      rw [hae]
      show nc ≤ 2000
      omega
  · exact ((hI.only.trans (hOc.mono (F := fun i => i = g) (G := fun i => i = g ∨ i = tv) (fun _ _ h => .inl h)) (fun _ _ h => h)).trans q4 (fun i hi e => absurd e (hnow i hi))).trans hc9 (fun _ _ h => .inr h)
theorem InsAt.next {T : TypeId} {w3 wa wb wc wd w9 : World} {o : Obj} {g h tv V : Nat} {r2 r3 : Rd} {j : Nat} {xs : List InV} {iA : Option Addr} {iC : Nat} {Ac A9 : Option Addr} {nc cc c9 : Nat} {a : InV}
    (hI : InsAt T w3 wa g h tv V r2 j xs iA iC) (hr3 : r3 = (Rd.rep Rd.inn j r2).2) (hab : wa.heap.size ≤ wb.heap.size) (oc : Only (fun i => i = g) wb wc) (od : Only (fun i => i = g) wc wd)
    (hBc : Bys wc Ac nc (r3.ref.2.text 2000).1) (hfc : Fr wb Ac) (hcc : nc ≤ cc) (hrf : r3.ref.1.Fine) (hF : ((r3.ref.2.text 2000).2.fixed 4).1 < 4294967296)
    (hae : a = ⟨r3.ref.1, Ac, nc, cc, (r3.ref.2.text 2000).1, (((r3.ref.2.text 2000).2.fixed 4).1 : Int)⟩)
    (hOc : Only (fun i => i = g) wa (wd.alloc o)) (hRd : RdAt T (wd.alloc o) g h ((r3.ref.2.text 2000).2.fixed 4).2)
    (q1 : w9.ownsRow w3.heap.size 60 35 (.slice A9 (j + 1) c9) (j + 1) (xs.flatMap InV.cells ++ a.cells)) (q2 : j + 1 ≤ c9)
    (q3 : ∀ q, (Value.slice A9 (j + 1) c9).ownBlock = some q → (Value.slice iA j iC).ownBlock = some q ∨ (wd.alloc o).heap.size ≤ q) (q4 : Only (fun i => (Value.slice iA j iC).ownBlock = some i) (wd.alloc o) w9)
    (hg : g < w3.heap.size) (hh : h < w3.heap.size) (htv : tv < w3.heap.size) (hne : tv ≠ g) (hnh : tv ≠ h) :
    InsAt T w3 (w9.setCell ⟨tv, 1, none⟩ (.slice A9 (j + 1) c9)) g h tv V r2 (j + 1) (xs ++ [a]) A9 c9 :=
  InsAt.next' hI hr3 hab oc.size od (fun i e => by have h9 : i = g := e; have := hI.only.size; omega) hBc hfc hcc hrf hF hae hOc hRd q1 q2 q3 q4 hg hh htv hne hnh
/-- The outputs read so far. -/
structure OutsAt (T : TypeId) (w5 ws : World) (g h tv V : Nat) (iA : Option Addr) (N iC : Nat) (r4 : Rd) (j : Nat) (xs : List OutV) (oA : Option Addr) (oC : Nat) : Prop where
  len : xs.length = j
  data : xs.map OutV.d = (Rd.rep Rd.out j r4).1
  rd : RdAt T ws g h (Rd.rep Rd.out j r4).2
  blk : Blk ws tv 37 (txcells V iA N iC oA j oC 0)
  cap : j ≤ oC
  row : ws.ownsRow w5.heap.size 62 2 (.slice oA j oC) j (xs.flatMap OutV.cells)
  keep : ∀ a ∈ xs, KeepO ws a (fun i => i < w5.heap.size ∨ (Value.slice oA j oC).ownBlock = some i)
  small : ∀ a ∈ xs, a.n ≤ 2000
  only : Only (fun i => i = g ∨ i = tv) w5 ws
theorem OutsAt.drew {T : TypeId} {w5 ws : World} {g h tv V : Nat} {iA : Option Addr} {N iC : Nat} {r4 : Rd} {j : Nat} {xs : List OutV} {oA : Option Addr} {oC : Nat} (h0 : OutsAt T w5 ws g h tv V iA N iC r4 j xs oA oC) : OutsAt T w5 ws.drew g h tv V iA N iC r4 j xs oA oC :=
  ⟨h0.len, h0.data, h0.rd.drew, h0.blk, h0.cap, h0.row, fun a ha => (h0.keep a ha).step (Only.refl _ ws).drew (fun _ _ h => h), h0.small, h0.only.drew⟩
theorem InsAt.later {T : TypeId} {w3 ws w' : World} {g h tv V : Nat} {r2 : Rd} {j : Nat} {xs : List InV} {iA : Option Addr} {iC : Nat} (hI : InsAt T w3 ws g h tv V r2 j xs iA iC) (ho : Only (fun i => i < w3.heap.size) ws w') : InsIn w' iA j xs :=
  rows_of hI.len (fun a ha => InV.cells_len (hI.keep a ha).fine.ref) (ho.own hI.row (fun q hq e => by have := (hI.row.lt q hq).1; omega)) (fun a ha => hI.keep a ha w' (ho.mono (fun _ _ h => .inl h)))
theorem OutsAt.later {T : TypeId} {w5 ws w' : World} {g h tv V : Nat} {iA : Option Addr} {N iC : Nat} {r4 : Rd} {j : Nat} {xs : List OutV} {oA : Option Addr} {oC : Nat} (hI : OutsAt T w5 ws g h tv V iA N iC r4 j xs oA oC) (ho : Only (fun i => i < w5.heap.size) ws w') : OutsIn w' oA j xs :=
  rows_of hI.len (fun _ _ => rfl) (ho.own hI.row (fun q hq e => by have := (hI.row.lt q hq).1; omega)) (fun a ha => hI.keep a ha w' (ho.mono (fun _ _ h => .inl h)))
theorem out_most (r : Rd) : r.out.1.lock.length ≤ 2000 := by
  have h := text_most (r.fixed 8).2 2000 (by decide)
  unfold Rd.out
  split
  · simp
  · simp only
    omega
theorem OutsAt.next {T : TypeId} {w5 wa wq wb w9 : World} {o : Obj} {g h tv V : Nat} {iA : Option Addr} {N iC : Nat} {r4 r3 : Rd} {j : Nat} {xs : List OutV} {oA : Option Addr} {oC : Nat} {A9 : Option Addr} {c9 : Nat} {a : OutV}
    (hI : OutsAt T w5 wa g h tv V iA N iC r4 j xs oA oC) (hr3 : r3 = (Rd.rep Rd.out j r4).2) (hab : wa.heap.size ≤ wq.heap.size) (had : a.d = r3.out.1) (hfb : a.Fine wb) (hAb : Fr wq a.A) (hqb : wq.heap.size ≤ wb.heap.size)
    (hOc : Only (fun i => i = g) wa (wb.alloc o)) (hRd : RdAt T (wb.alloc o) g h r3.out.2)
    (q1 : w9.ownsRow w5.heap.size 62 2 (.slice A9 (j + 1) c9) (j + 1) (xs.flatMap OutV.cells ++ a.cells)) (q2 : j + 1 ≤ c9)
    (q3 : ∀ q, (Value.slice A9 (j + 1) c9).ownBlock = some q → (Value.slice oA j oC).ownBlock = some q ∨ (wb.alloc o).heap.size ≤ q) (q4 : Only (fun i => (Value.slice oA j oC).ownBlock = some i) (wb.alloc o) w9)
    (hg : g < w5.heap.size) (hh : h < w5.heap.size) (htv : tv < w5.heap.size) (hne : tv ≠ g) (hnh : tv ≠ h) :
    OutsAt T w5 (w9.setCell ⟨tv, 2, none⟩ (.slice A9 (j + 1) c9)) g h tv V iA N iC r4 (j + 1) (xs ++ [a]) A9 c9 := by
  have hown := hI.row.lt
  have hown9 := q1.lt
  have hs := hI.only.size
  have hsa : (wb.alloc o).heap.size = wb.heap.size + 1 := by simp
  have hc9 := Only.cell1 w9 tv 2 (.slice A9 (j + 1) c9)
  have hnow : ∀ i, i < w5.heap.size → ¬ (Value.slice oA j oC).ownBlock = some i := fun i hi e => by have := (hown i e).1; omega
  have hall : Only (fun i => i < w5.heap.size ∨ (Value.slice oA j oC).ownBlock = some i) wa (w9.setCell ⟨tv, 2, none⟩ (.slice A9 (j + 1) c9)) :=
    ((hOc.mono (fun i _ h => .inl (by have h9 : i = g := h; omega))).trans q4 (fun _ _ h => .inr h)).trans hc9 (fun i _ h => .inl (by have h9 : i = tv := h; omega))
  have hap : ∀ F : Nat → Prop, (∀ i, F i → i < wq.heap.size) → Apart a.A a.n F := fun F hF _ ad e hf => by have := hAb ad e; have := hF _ hf; omega
  have hB9 : Bys (w9.setCell ⟨tv, 2, none⟩ (.slice A9 (j + 1) c9)) a.A a.n a.bs :=
    ((hfb.bys.alloc o).keep q4 (hap _ (fun i e => by have := (hown i e).2; omega))).keep hc9 (hap _ (fun i e => by have h9 : i = tv := e; omega))
  refine ⟨by simp [hI.len], ?_, ?_, ?_, q2, ?_, fun b hb => ?_, fun b hb => ?_, ?_⟩
  · rw [List.map_append, hI.data, Rd.rep, ← hr3, ← had]
    rfl
  · have : (Rd.rep Rd.out (j + 1) r4).2 = r3.out.2 := by rw [Rd.rep, ← hr3]
    rw [this]
    exact (hRd.keep q4 (hnow g hg) (hnow h hh)).keep hc9 (fun e => hne e.symm) (fun e => hnh e.symm)
  · exact (q4.blk (hOc.blk hI.blk hne) (hnow tv htv)).set_ 2 _
  · have e : (xs ++ [a]).flatMap OutV.cells = xs.flatMap OutV.cells ++ a.cells := by simp
    rw [e]
    exact hc9.own q1 (fun q hq e => by have := (hown9 q hq).1; have h9 : q = tv := e; omega)
  · rcases List.mem_append.1 hb with hb | hb
    · refine (hI.keep b hb).step hall (fun i hi hf => ?_)
      rcases hf with hf | hf
      · exact .inl hf
      · rcases q3 i hf with h1 | h1
        · exact .inr h1
        · omega
    · obtain rfl : b = a := by simpa using hb
      refine KeepO.mk ⟨hfb.v, hB9, hfb.cap, ((hfb.free.below hfb.bys (below_alloc (Below.refl _ _) o)).keep (hfb.bys.alloc o) q4 (hap _ (fun i e => by have := (hown i e).2; omega))).keep ((hfb.bys.alloc o).keep q4 (hap _ (fun i e => by have := (hown i e).2; omega))) hc9 (hap _ (fun i e => by have h9 : i = tv := e; omega))⟩ (fun hn ad e hf => ?_)
      have h1 := hAb ad e
      have h2 := hfb.bys.lt hn ad e
      rcases hf with hf | hf
      · omega
      · rcases q3 _ hf with h5 | h5
        · have := (hown _ h5).2; omega
        · omega
  · rcases List.mem_append.1 hb with hb | hb
    · exact hI.small b hb
    · obtain rfl : b = a := by simpa using hb
      have h1 := out_most r3
      have h2 := hfb.bys.1
      have h3 : b.bs.length = r3.out.1.lock.length := by rw [← had]; rfl
      omega
  · exact ((hI.only.trans (hOc.mono (F := fun i => i = g) (G := fun i => i = g ∨ i = tv) (fun _ _ h => .inl h)) (fun _ _ h => h)).trans q4 (fun i hi e => absurd e (hnow i hi))).trans hc9 (fun _ _ h => .inr h)
attribute [local go_sem ↓] loadIn_fold loadRef_fold mkIn_fold mkIns_fold
set_option maxHeartbeats 4000000 in
set_option maxRecDepth 100000 in
theorem TRead_any (w : World) (g h : Nat) (r : Rd) (hR : RdAt 164 w g h r) :
    Calls Try.prog 78 #[.pointer (some ⟨g, 0, none⟩)] w (TxPost 164 w g h r.tx.2 r.tx.1) := by
  have hgl := hR.lt.1
  have hhl := hR.lt.2
  have HGL := hide hgl
  have HHL := hide hhl
  have hR0 := hR.below ((Below.refl _ w).alloc (Nat.le_refl _) (.cells #[.int .u32 0, .slice none 0 0, .slice none 0 0, .int .u32 0] 37))
  have BZ := hide (Blk.new w 37 (txcells 0 none 0 0 none 0 0 0))
  have O0 := hide (Only.alloc0 (F := fun i => i = g) w (.cells #[.int .u32 0, .slice none 0 0, .slice none 0 0, .int .u32 0] 37))
  have hV := hide (fixed_u32 r (by obtain ⟨_, _, _, _, hB2, _⟩ := hR; exact hB2.2.1))
  clear hR
  go_enter Try.func78, Try.ntmps78
  go_wp2_with fail
  refine (word_any _ g h _ hR0).mono ?_
  rintro e w1 ⟨rfl, hR1, o1⟩
  obtain ⟨V, r1, h1⟩ : ∃ V r1, r.fixed 4 = (V, r1) := ⟨_, _, rfl⟩
  rw [h1] at hR1 hV ⊢
  simp only at hR1 hV ⊢
  have hne := hide (show ¬ w.heap.size = g by omega)
  have B1 := hide ((o1.blk BZ.out hne.out).alloc (.cells (txcells V none 0 0 none 0 0 0).toArray 37))
  have O1 := hide ((O0.out.trans o1 (fun _ _ h => h)).alloc (.cells (txcells V none 0 0 none 0 0 0).toArray 37))
  have T1 := hide (Blk.new w1 37 (txcells V none 0 0 none 0 0 0))
  have hR2 := hide (hR1.below ((Below.refl _ w1).alloc (Nat.le_refl _) (.cells (txcells V none 0 0 none 0 0 0).toArray 37)))
  have hs1 := hide (show w.heap.size < w1.heap.size from (o1.blk BZ.out hne.out).lt)
  clear hR0 hR1 o1 BZ O0
  go_wp2_with fail
  obtain ⟨w2, hw2⟩ : ∃ w2, w2 = w1.alloc (.cells (txcells V none 0 0 none 0 0 0).toArray 37) := ⟨_, rfl⟩
  change Calls _ _ _ (w1.alloc (.cells (txcells V none 0 0 none 0 0 0).toArray 37)) _
  rw [← hw2] at B1 O1 T1 hR2 ⊢
  clear hw2
  refine (RCount_any _ g h _ 200 hR2.out (by decide)).mono ?_
  rintro e w3 ⟨rfl, hR3, o3⟩
  have hN := count_most r1 200
  obtain ⟨N, r2, h2⟩ : ∃ N r2, r1.count 200 = (N, r2) := ⟨_, _, rfl⟩
  have e200 : (200 : Int).toNat = 200 := rfl
  rw [e200] at hR3 ⊢
  rw [h2] at hR3 hN ⊢
  simp only at hR3 hN ⊢
  have hntv := hide (show ¬ w1.heap.size = g by have := HGL.out; have := hs1.out; omega)
  have hnrv := hide (show ¬ w.heap.size = g by have := HGL.out; omega)
  have T3 := hide (o3.blk T1.out hntv.out)
  have B3 := hide (o3.blk B1.out hnrv.out)
  have O3 := hide (O1.out.trans o3 (fun _ _ h => h))
  have hs3 := hide (show w1.heap.size < w3.heap.size from T3.out.lt)
  have hR30 := hide hR3
  clear hR2 o3 T1 B1 O1 e200 hR3
  go_wp2_with fail
  go_loopw [9] (fun i ws => ∃ (j : Nat) (xs : List InV) (iA : Option Addr) (iC : Nat), j ≤ N ∧ i = .int .u64 (j : Int) ∧ InsAt 164 w3 ws g h w1.heap.size V r2 j xs iA iC) (fun i _ => N - (intOf i).toNat)
  case atStart => exact ⟨0, [], none, 0, by omega, rfl, rfl, rfl, hR30.out, T3.out, Nat.le_refl _, World.ownsRow_nil _ _ _ _, (by simp), (by simp), Only.refl _ _⟩
  case round =>
    obtain ⟨j, xs, iA, iC, hj, rfl, hI⟩ := hrel
    have HI := hide hI
    by_cases hlt : j < N
    · obtain ⟨r3, hr3⟩ : ∃ r3, r3 = (Rd.rep Rd.inn j r2).2 := ⟨_, rfl⟩
      have hrd := hI.rd
      rw [← hr3] at hrd
      have HR3 := hide hr3
      have hj200 : j ≤ 200 := by omega
      have hj1 : (j : Int) < (N : Int) := by omega
      have hj0 : (j : Int) ≤ 200 := by omega
      obtain ⟨wa, hwa⟩ : ∃ wa, wa = wr.drew := ⟨_, rfl⟩
      have hIa := hide (show InsAt 164 w3 wa g h w1.heap.size V r2 j xs iA iC by rw [hwa]; exact hI.drew)
      have hRc : RdAt 164 wa g h r3 := by rw [hr3]; exact hIa.out.rd
      have Ta := hide hIa.out.blk
      have hOc : Only (fun i => i = g) wa wa := Only.refl _ _
      have hblk := hide (show ∀ q, (Value.slice iA j iC).ownBlock = some q → w3.heap.size ≤ q ∧ q < wa.heap.size from hIa.out.row.lt)
      clear hrd hr3 hI
      go_wp2_with fail
      refine wp_region_held_drew (S := fun _ => True) (by kernel_rfl) trivial (fun _ => ?_)
      rw [← hwa]
      clear hwa
      refine wpAnyH_take (i := 0) (v := ?_) rfl (by kernel_rfl) (by kernel_rfl) (by kernel_rfl) (fun _ _ _ h => h) (Or.inl ⟨by rfl, fun w' _ => ?_⟩) trivial ?_; rotate_left; focus (go_simp; try with_reducible rfl)
      simp only [Act.put, List.setIfInBounds_toArray]
      refine wpAnyH_take (i := 2) (v := ?_) rfl (by kernel_rfl) (by kernel_rfl) (by kernel_rfl) (fun _ _ _ h => h) (Or.inl ⟨by rfl, fun w' _ => ?_⟩) trivial ?_; rotate_left; focus (go_simp; try with_reducible rfl)
      simp only [Act.put]
      refine wpAnyH_take (i := 4) (v := ?_) rfl (by kernel_rfl) (by kernel_rfl) (by kernel_rfl) (fun _ _ _ h => h) (Or.inl ⟨by rfl, fun w' _ => ?_⟩) trivial ?_; rotate_left; focus (go_simp; try with_reducible rfl)
      simp only [Act.put]
      refine wpAnyH_take (i := 6) (v := ?_) rfl (by kernel_rfl) (by kernel_rfl) (by kernel_rfl) (fun _ _ _ h => h) (Or.inl ⟨by rfl, fun w' _ => ?_⟩) trivial ?_; rotate_left; focus (go_simp; try with_reducible rfl)
      simp only [Act.put]
      refine wpAnyH_ready (rs := [1, 3]) (by kernel_rfl) (by simp) ?_
      refine AllReadyH.cons rfl (fun K hK => ?_) (AllReadyH.cons rfl (fun K hK => ?_) AllReadyH.nil)
      · have c1 := (hOc.blk Ta.out hntv.out).c1
        go_simp
        refine hK.out _ _ trivial (fun _ => ?_)
        clear hK K
        refine wpAnyH_ready (rs := [3]) (by kernel_rfl) (by simp) ?_
        refine AllReadyH.cons rfl (fun K hK => ?_) AllReadyH.nil
        go_simp
        refine (RefRead_any _ g h _ hRc).mono ?_
        rintro e wb ⟨rfl, hfb, hRb, ob⟩
        go_simp
        refine hK.out _ _ trivial (fun _ => ?_)
        clear hK K
        have hOc := hOc.trans ob (fun _ _ h => h)
        refine wpAnyH_ready (rs := [5]) (by kernel_rfl) (by simp) ?_
        refine AllReadyH.cons rfl (fun K hK => ?_) AllReadyH.nil
        go_simp
        refine (RText_any _ g h _ 2000 hRb (by decide)).mono ?_
        rintro e wc ⟨Ac, nc, cc, rfl, hBc, hcc, hfc, hRc, oc⟩
        go_simp
        refine hK.out _ _ trivial (fun _ => ?_)
        clear hK K
        have hsz := hOc.size
        have hOc := hOc.trans oc (fun _ _ h => h)
        refine wpAnyH_ready (rs := [7]) (by kernel_rfl) (by simp) ?_
        refine AllReadyH.cons rfl (fun K hK => ?_) AllReadyH.nil
        go_simp
        refine (word_any _ g h _ hRc).mono ?_
        rintro e wd ⟨rfl, hRd, od⟩
        go_simp
        refine hK.out _ _ trivial (fun _ => ?_)
        clear hK K
        have hOc := hOc.trans od (fun _ _ h => h)
        obtain ⟨a, hae1⟩ : ∃ a : InV, a = ⟨r3.ref.1, Ac, nc, cc, (r3.ref.2.text 2000).1, (((r3.ref.2.text 2000).2.fixed 4).1 : Int)⟩ := ⟨_, rfl⟩
        have hae := hide hae1
        clear hae1
        refine wpAnyH_take (i := 8) (v := ?_) rfl (by kernel_rfl) (by kernel_rfl) (by kernel_rfl) (fun _ _ _ h => h) (Or.inl ⟨by rfl, fun w' _ => ?_⟩) trivial ?_; rotate_left; focus (have hmk := mkIn_run r3.ref.1 hfb Ac nc cc (r3.ref.2.text 2000).1 (((r3.ref.2.text 2000).2.fixed 4).1 : Int); go_simp; try with_reducible rfl)
        simp only [Act.put, List.setIfInBounds_toArray]
        refine wpAnyH_ready (rs := [9]) (by kernel_rfl) (by simp) ?_
        refine AllReadyH.cons rfl (fun K hK => ?_) AllReadyH.nil
        rw [← hae.out]
        have hmks := mkIns_run wd a (by rw [hae.out]; exact hfb)
        go_simp
        refine hK.out _ _ trivial (fun _ => ?_)
        clear hK K
        have hOc := hOc.alloc (.cells a.cells.toArray 60)
        have hRd := hRd.below ((Below.refl _ wd).alloc (Nat.le_refl _) (.cells a.cells.toArray 60))
        refine wpAnyH_ready (rs := [10]) (by kernel_rfl) (by simp) ?_
        refine AllReadyH.cons rfl (fun K hK => ?_) AllReadyH.nil
        have hrc := hOc.own hIa.out.row (fun q hq e => by have := hblk.out q hq; have := HGL.out; have := hs1.out; have := hs3.out; have h9 : q = g := e; omega)
        refine step_row rfl 21 rfl _ _ 34 rfl 60 35 72 Try.underlying34 in_infoR (by decide) w3.heap.size (.slice iA j iC) j (xs.flatMap InV.cells) (by rfl) hrc (Nat.le_trans hIa.out.only.size hOc.size) wd.heap.size 0 1 1 a.cells (by rfl) (by rw [InV.cells_len (by rw [hae.out]; exact hfb)]) (Blk.new wd 60 a.cells).whole (InV.one a) (by omega) (by decide) ?_
        intro A9 c9 w9 q1 q2 q3 q4
        refine hK.out _ _ trivial (fun _ => ?_)
        clear hK K
        refine wpAnyH_take (i := 11) (v := ?_) rfl (by kernel_rfl) (by kernel_rfl) (by kernel_rfl) (fun _ _ _ h => h) (Or.inl ⟨by rfl, fun w' _ => ?_⟩) trivial ?_; rotate_left; focus (go_simp; try with_reducible rfl)
        simp only [Act.put, List.setIfInBounds_toArray, List.set_cons_zero, List.set_cons_succ]
        have hnw : ¬ (Value.slice iA j iC).ownBlock = some w1.heap.size := fun e => by have := hblk.out _ e; have := hs3.out; omega
        have hT9 := q4.blk (hOc.blk Ta.out hntv.out) hnw
        have c1 : w9.cell? ⟨w1.heap.size, 1, none⟩ = some (.slice iA j iC) := hT9.c1
        have f1 := hT9.frozen 1
        have hF4 := fixed_u32 (r3.ref.2.text 2000).2 (by obtain ⟨_, _, _, _, hB2, _⟩ := hRc; exact hB2.2.1)
        have hfin := hide (InsAt.next hIa.out HR3.out hsz oc od hBc hfc hcc hfb hF4 hae.out hOc hRd q1 q2 q3 q4 (by have := HGL.out; have := hs1.out; have := hs3.out; omega) (by have := HHL.out; have := hs1.out; have := hs3.out; omega) hs3.out hntv.out (by have := HHL.out; have := hs1.out; omega))
        clear q1 q2 q3 q4 hT9 hrc hOc hRd hRc hBc hfc hcc hfb hF4 hae hRb oc od
        refine wpAnyH_ready (rs := [12]) (by kernel_rfl) (by simp) ?_
        refine AllReadyH.cons rfl (fun K hK => ?_) AllReadyH.nil
        go_simp
        refine hK.out _ _ trivial (fun _ => ?_)
        clear hK K
        refine wpAnyH_done (by kernel_rfl) ?_ _
        go_wp2_with fail
        exact ⟨⟨j + 1, xs ++ [a], A9, c9, by omega, by simp, hfin.out⟩, by simp [intOf]; omega⟩
      · go_simp
        refine (RefRead_any _ g h _ hRc).mono ?_
        rintro e wb ⟨rfl, hfb, hRb, ob⟩
        go_simp
        refine hK.out _ _ trivial (fun _ => ?_)
        clear hK K
        have hOc := hOc.trans ob (fun _ _ h => h)
        refine wpAnyH_ready (rs := [1, 5]) (by kernel_rfl) (by simp) ?_
        refine AllReadyH.cons rfl (fun K hK => ?_) (AllReadyH.cons rfl (fun K hK => ?_) AllReadyH.nil)
        · have c1 := (hOc.blk Ta.out hntv.out).c1
          go_simp
          refine hK.out _ _ trivial (fun _ => ?_)
          clear hK K
          refine wpAnyH_ready (rs := [5]) (by kernel_rfl) (by simp) ?_
          refine AllReadyH.cons rfl (fun K hK => ?_) AllReadyH.nil
          go_simp
          refine (RText_any _ g h _ 2000 hRb (by decide)).mono ?_
          rintro e wc ⟨Ac, nc, cc, rfl, hBc, hcc, hfc, hRc, oc⟩
          go_simp
          refine hK.out _ _ trivial (fun _ => ?_)
          clear hK K
          have hsz := hOc.size
          have hOc := hOc.trans oc (fun _ _ h => h)
          refine wpAnyH_ready (rs := [7]) (by kernel_rfl) (by simp) ?_
          refine AllReadyH.cons rfl (fun K hK => ?_) AllReadyH.nil
          go_simp
          refine (word_any _ g h _ hRc).mono ?_
          rintro e wd ⟨rfl, hRd, od⟩
          go_simp
          refine hK.out _ _ trivial (fun _ => ?_)
          clear hK K
          have hOc := hOc.trans od (fun _ _ h => h)
          obtain ⟨a, hae1⟩ : ∃ a : InV, a = ⟨r3.ref.1, Ac, nc, cc, (r3.ref.2.text 2000).1, (((r3.ref.2.text 2000).2.fixed 4).1 : Int)⟩ := ⟨_, rfl⟩
          have hae := hide hae1
          clear hae1
          refine wpAnyH_take (i := 8) (v := ?_) rfl (by kernel_rfl) (by kernel_rfl) (by kernel_rfl) (fun _ _ _ h => h) (Or.inl ⟨by rfl, fun w' _ => ?_⟩) trivial ?_; rotate_left; focus (have hmk := mkIn_run r3.ref.1 hfb Ac nc cc (r3.ref.2.text 2000).1 (((r3.ref.2.text 2000).2.fixed 4).1 : Int); go_simp; try with_reducible rfl)
          simp only [Act.put, List.setIfInBounds_toArray]
          refine wpAnyH_ready (rs := [9]) (by kernel_rfl) (by simp) ?_
          refine AllReadyH.cons rfl (fun K hK => ?_) AllReadyH.nil
          rw [← hae.out]
          have hmks := mkIns_run wd a (by rw [hae.out]; exact hfb)
          go_simp
          refine hK.out _ _ trivial (fun _ => ?_)
          clear hK K
          have hOc := hOc.alloc (.cells a.cells.toArray 60)
          have hRd := hRd.below ((Below.refl _ wd).alloc (Nat.le_refl _) (.cells a.cells.toArray 60))
          refine wpAnyH_ready (rs := [10]) (by kernel_rfl) (by simp) ?_
          refine AllReadyH.cons rfl (fun K hK => ?_) AllReadyH.nil
          have hrc := hOc.own hIa.out.row (fun q hq e => by have := hblk.out q hq; have := HGL.out; have := hs1.out; have := hs3.out; have h9 : q = g := e; omega)
          refine step_row rfl 21 rfl _ _ 34 rfl 60 35 72 Try.underlying34 in_infoR (by decide) w3.heap.size (.slice iA j iC) j (xs.flatMap InV.cells) (by rfl) hrc (Nat.le_trans hIa.out.only.size hOc.size) wd.heap.size 0 1 1 a.cells (by rfl) (by rw [InV.cells_len (by rw [hae.out]; exact hfb)]) (Blk.new wd 60 a.cells).whole (InV.one a) (by omega) (by decide) ?_
          intro A9 c9 w9 q1 q2 q3 q4
          refine hK.out _ _ trivial (fun _ => ?_)
          clear hK K
          refine wpAnyH_take (i := 11) (v := ?_) rfl (by kernel_rfl) (by kernel_rfl) (by kernel_rfl) (fun _ _ _ h => h) (Or.inl ⟨by rfl, fun w' _ => ?_⟩) trivial ?_; rotate_left; focus (go_simp; try with_reducible rfl)
          simp only [Act.put, List.setIfInBounds_toArray, List.set_cons_zero, List.set_cons_succ]
          have hnw : ¬ (Value.slice iA j iC).ownBlock = some w1.heap.size := fun e => by have := hblk.out _ e; have := hs3.out; omega
          have hT9 := q4.blk (hOc.blk Ta.out hntv.out) hnw
          have c1 : w9.cell? ⟨w1.heap.size, 1, none⟩ = some (.slice iA j iC) := hT9.c1
          have f1 := hT9.frozen 1
          have hF4 := fixed_u32 (r3.ref.2.text 2000).2 (by obtain ⟨_, _, _, _, hB2, _⟩ := hRc; exact hB2.2.1)
          have hfin := hide (InsAt.next hIa.out HR3.out hsz oc od hBc hfc hcc hfb hF4 hae.out hOc hRd q1 q2 q3 q4 (by have := HGL.out; have := hs1.out; have := hs3.out; omega) (by have := HHL.out; have := hs1.out; have := hs3.out; omega) hs3.out hntv.out (by have := HHL.out; have := hs1.out; omega))
          clear q1 q2 q3 q4 hT9 hrc hOc hRd hRc hBc hfc hcc hfb hF4 hae hRb oc od
          refine wpAnyH_ready (rs := [12]) (by kernel_rfl) (by simp) ?_
          refine AllReadyH.cons rfl (fun K hK => ?_) AllReadyH.nil
          go_simp
          refine hK.out _ _ trivial (fun _ => ?_)
          clear hK K
          refine wpAnyH_done (by kernel_rfl) ?_ _
          go_wp2_with fail
          exact ⟨⟨j + 1, xs ++ [a], A9, c9, by omega, by simp, hfin.out⟩, by simp [intOf]; omega⟩
        · go_simp
          refine (RText_any _ g h _ 2000 hRb (by decide)).mono ?_
          rintro e wc ⟨Ac, nc, cc, rfl, hBc, hcc, hfc, hRc, oc⟩
          go_simp
          refine hK.out _ _ trivial (fun _ => ?_)
          clear hK K
          have hsz := hOc.size
          have hOc := hOc.trans oc (fun _ _ h => h)
          refine wpAnyH_ready (rs := [1, 7]) (by kernel_rfl) (by simp) ?_
          refine AllReadyH.cons rfl (fun K hK => ?_) (AllReadyH.cons rfl (fun K hK => ?_) AllReadyH.nil)
          · have c1 := (hOc.blk Ta.out hntv.out).c1
            go_simp
            refine hK.out _ _ trivial (fun _ => ?_)
            clear hK K
            refine wpAnyH_ready (rs := [7]) (by kernel_rfl) (by simp) ?_
            refine AllReadyH.cons rfl (fun K hK => ?_) AllReadyH.nil
            go_simp
            refine (word_any _ g h _ hRc).mono ?_
            rintro e wd ⟨rfl, hRd, od⟩
            go_simp
            refine hK.out _ _ trivial (fun _ => ?_)
            clear hK K
            have hOc := hOc.trans od (fun _ _ h => h)
            obtain ⟨a, hae1⟩ : ∃ a : InV, a = ⟨r3.ref.1, Ac, nc, cc, (r3.ref.2.text 2000).1, (((r3.ref.2.text 2000).2.fixed 4).1 : Int)⟩ := ⟨_, rfl⟩
            have hae := hide hae1
            clear hae1
            refine wpAnyH_take (i := 8) (v := ?_) rfl (by kernel_rfl) (by kernel_rfl) (by kernel_rfl) (fun _ _ _ h => h) (Or.inl ⟨by rfl, fun w' _ => ?_⟩) trivial ?_; rotate_left; focus (have hmk := mkIn_run r3.ref.1 hfb Ac nc cc (r3.ref.2.text 2000).1 (((r3.ref.2.text 2000).2.fixed 4).1 : Int); go_simp; try with_reducible rfl)
            simp only [Act.put, List.setIfInBounds_toArray]
            refine wpAnyH_ready (rs := [9]) (by kernel_rfl) (by simp) ?_
            refine AllReadyH.cons rfl (fun K hK => ?_) AllReadyH.nil
            rw [← hae.out]
            have hmks := mkIns_run wd a (by rw [hae.out]; exact hfb)
            go_simp
            refine hK.out _ _ trivial (fun _ => ?_)
            clear hK K
            have hOc := hOc.alloc (.cells a.cells.toArray 60)
            have hRd := hRd.below ((Below.refl _ wd).alloc (Nat.le_refl _) (.cells a.cells.toArray 60))
            refine wpAnyH_ready (rs := [10]) (by kernel_rfl) (by simp) ?_
            refine AllReadyH.cons rfl (fun K hK => ?_) AllReadyH.nil
            have hrc := hOc.own hIa.out.row (fun q hq e => by have := hblk.out q hq; have := HGL.out; have := hs1.out; have := hs3.out; have h9 : q = g := e; omega)
            refine step_row rfl 21 rfl _ _ 34 rfl 60 35 72 Try.underlying34 in_infoR (by decide) w3.heap.size (.slice iA j iC) j (xs.flatMap InV.cells) (by rfl) hrc (Nat.le_trans hIa.out.only.size hOc.size) wd.heap.size 0 1 1 a.cells (by rfl) (by rw [InV.cells_len (by rw [hae.out]; exact hfb)]) (Blk.new wd 60 a.cells).whole (InV.one a) (by omega) (by decide) ?_
            intro A9 c9 w9 q1 q2 q3 q4
            refine hK.out _ _ trivial (fun _ => ?_)
            clear hK K
            refine wpAnyH_take (i := 11) (v := ?_) rfl (by kernel_rfl) (by kernel_rfl) (by kernel_rfl) (fun _ _ _ h => h) (Or.inl ⟨by rfl, fun w' _ => ?_⟩) trivial ?_; rotate_left; focus (go_simp; try with_reducible rfl)
            simp only [Act.put, List.setIfInBounds_toArray, List.set_cons_zero, List.set_cons_succ]
            have hnw : ¬ (Value.slice iA j iC).ownBlock = some w1.heap.size := fun e => by have := hblk.out _ e; have := hs3.out; omega
            have hT9 := q4.blk (hOc.blk Ta.out hntv.out) hnw
            have c1 : w9.cell? ⟨w1.heap.size, 1, none⟩ = some (.slice iA j iC) := hT9.c1
            have f1 := hT9.frozen 1
            have hF4 := fixed_u32 (r3.ref.2.text 2000).2 (by obtain ⟨_, _, _, _, hB2, _⟩ := hRc; exact hB2.2.1)
            have hfin := hide (InsAt.next hIa.out HR3.out hsz oc od hBc hfc hcc hfb hF4 hae.out hOc hRd q1 q2 q3 q4 (by have := HGL.out; have := hs1.out; have := hs3.out; omega) (by have := HHL.out; have := hs1.out; have := hs3.out; omega) hs3.out hntv.out (by have := HHL.out; have := hs1.out; omega))
            clear q1 q2 q3 q4 hT9 hrc hOc hRd hRc hBc hfc hcc hfb hF4 hae hRb oc od
            refine wpAnyH_ready (rs := [12]) (by kernel_rfl) (by simp) ?_
            refine AllReadyH.cons rfl (fun K hK => ?_) AllReadyH.nil
            go_simp
            refine hK.out _ _ trivial (fun _ => ?_)
            clear hK K
            refine wpAnyH_done (by kernel_rfl) ?_ _
            go_wp2_with fail
            exact ⟨⟨j + 1, xs ++ [a], A9, c9, by omega, by simp, hfin.out⟩, by simp [intOf]; omega⟩
          · go_simp
            refine (word_any _ g h _ hRc).mono ?_
            rintro e wd ⟨rfl, hRd, od⟩
            go_simp
            refine hK.out _ _ trivial (fun _ => ?_)
            clear hK K
            have hOc := hOc.trans od (fun _ _ h => h)
            obtain ⟨a, hae1⟩ : ∃ a : InV, a = ⟨r3.ref.1, Ac, nc, cc, (r3.ref.2.text 2000).1, (((r3.ref.2.text 2000).2.fixed 4).1 : Int)⟩ := ⟨_, rfl⟩
            have hae := hide hae1
            clear hae1
            refine wpAnyH_take (i := 8) (v := ?_) rfl (by kernel_rfl) (by kernel_rfl) (by kernel_rfl) (fun _ _ _ h => h) (Or.inl ⟨by rfl, fun w' _ => ?_⟩) trivial ?_; rotate_left; focus (have hmk := mkIn_run r3.ref.1 hfb Ac nc cc (r3.ref.2.text 2000).1 (((r3.ref.2.text 2000).2.fixed 4).1 : Int); go_simp; try with_reducible rfl)
            simp only [Act.put, List.setIfInBounds_toArray]
            refine wpAnyH_ready (rs := [1, 9]) (by kernel_rfl) (by simp) ?_
            refine AllReadyH.cons rfl (fun K hK => ?_) (AllReadyH.cons rfl (fun K hK => ?_) AllReadyH.nil)
            · have c1 := (hOc.blk Ta.out hntv.out).c1
              go_simp
              refine hK.out _ _ trivial (fun _ => ?_)
              clear hK K
              refine wpAnyH_ready (rs := [9]) (by kernel_rfl) (by simp) ?_
              refine AllReadyH.cons rfl (fun K hK => ?_) AllReadyH.nil
              rw [← hae.out]
              have hmks := mkIns_run wd a (by rw [hae.out]; exact hfb)
              go_simp
              refine hK.out _ _ trivial (fun _ => ?_)
              clear hK K
              have hOc := hOc.alloc (.cells a.cells.toArray 60)
              have hRd := hRd.below ((Below.refl _ wd).alloc (Nat.le_refl _) (.cells a.cells.toArray 60))
              refine wpAnyH_ready (rs := [10]) (by kernel_rfl) (by simp) ?_
              refine AllReadyH.cons rfl (fun K hK => ?_) AllReadyH.nil
              have hrc := hOc.own hIa.out.row (fun q hq e => by have := hblk.out q hq; have := HGL.out; have := hs1.out; have := hs3.out; have h9 : q = g := e; omega)
              refine step_row rfl 21 rfl _ _ 34 rfl 60 35 72 Try.underlying34 in_infoR (by decide) w3.heap.size (.slice iA j iC) j (xs.flatMap InV.cells) (by rfl) hrc (Nat.le_trans hIa.out.only.size hOc.size) wd.heap.size 0 1 1 a.cells (by rfl) (by rw [InV.cells_len (by rw [hae.out]; exact hfb)]) (Blk.new wd 60 a.cells).whole (InV.one a) (by omega) (by decide) ?_
              intro A9 c9 w9 q1 q2 q3 q4
              refine hK.out _ _ trivial (fun _ => ?_)
              clear hK K
              refine wpAnyH_take (i := 11) (v := ?_) rfl (by kernel_rfl) (by kernel_rfl) (by kernel_rfl) (fun _ _ _ h => h) (Or.inl ⟨by rfl, fun w' _ => ?_⟩) trivial ?_; rotate_left; focus (go_simp; try with_reducible rfl)
              simp only [Act.put, List.setIfInBounds_toArray, List.set_cons_zero, List.set_cons_succ]
              have hnw : ¬ (Value.slice iA j iC).ownBlock = some w1.heap.size := fun e => by have := hblk.out _ e; have := hs3.out; omega
              have hT9 := q4.blk (hOc.blk Ta.out hntv.out) hnw
              have c1 : w9.cell? ⟨w1.heap.size, 1, none⟩ = some (.slice iA j iC) := hT9.c1
              have f1 := hT9.frozen 1
              have hF4 := fixed_u32 (r3.ref.2.text 2000).2 (by obtain ⟨_, _, _, _, hB2, _⟩ := hRc; exact hB2.2.1)
              have hfin := hide (InsAt.next hIa.out HR3.out hsz oc od hBc hfc hcc hfb hF4 hae.out hOc hRd q1 q2 q3 q4 (by have := HGL.out; have := hs1.out; have := hs3.out; omega) (by have := HHL.out; have := hs1.out; have := hs3.out; omega) hs3.out hntv.out (by have := HHL.out; have := hs1.out; omega))
              clear q1 q2 q3 q4 hT9 hrc hOc hRd hRc hBc hfc hcc hfb hF4 hae hRb oc od
              refine wpAnyH_ready (rs := [12]) (by kernel_rfl) (by simp) ?_
              refine AllReadyH.cons rfl (fun K hK => ?_) AllReadyH.nil
              go_simp
              refine hK.out _ _ trivial (fun _ => ?_)
              clear hK K
              refine wpAnyH_done (by kernel_rfl) ?_ _
              go_wp2_with fail
              exact ⟨⟨j + 1, xs ++ [a], A9, c9, by omega, by simp, hfin.out⟩, by simp [intOf]; omega⟩
            · rw [← hae.out]
              have hmks := mkIns_run wd a (by rw [hae.out]; exact hfb)
              go_simp
              refine hK.out _ _ trivial (fun _ => ?_)
              clear hK K
              have hOc := hOc.alloc (.cells a.cells.toArray 60)
              have hRd := hRd.below ((Below.refl _ wd).alloc (Nat.le_refl _) (.cells a.cells.toArray 60))
              refine wpAnyH_ready (rs := [1]) (by kernel_rfl) (by simp) ?_
              refine AllReadyH.cons rfl (fun K hK => ?_) AllReadyH.nil
              have c1 := (hOc.blk Ta.out hntv.out).c1
              go_simp
              refine hK.out _ _ trivial (fun _ => ?_)
              clear hK K
              refine wpAnyH_ready (rs := [10]) (by kernel_rfl) (by simp) ?_
              refine AllReadyH.cons rfl (fun K hK => ?_) AllReadyH.nil
              have hrc := hOc.own hIa.out.row (fun q hq e => by have := hblk.out q hq; have := HGL.out; have := hs1.out; have := hs3.out; have h9 : q = g := e; omega)
              refine step_row rfl 21 rfl _ _ 34 rfl 60 35 72 Try.underlying34 in_infoR (by decide) w3.heap.size (.slice iA j iC) j (xs.flatMap InV.cells) (by rfl) hrc (Nat.le_trans hIa.out.only.size hOc.size) wd.heap.size 0 1 1 a.cells (by rfl) (by rw [InV.cells_len (by rw [hae.out]; exact hfb)]) (Blk.new wd 60 a.cells).whole (InV.one a) (by omega) (by decide) ?_
              intro A9 c9 w9 q1 q2 q3 q4
              refine hK.out _ _ trivial (fun _ => ?_)
              clear hK K
              refine wpAnyH_take (i := 11) (v := ?_) rfl (by kernel_rfl) (by kernel_rfl) (by kernel_rfl) (fun _ _ _ h => h) (Or.inl ⟨by rfl, fun w' _ => ?_⟩) trivial ?_; rotate_left; focus (go_simp; try with_reducible rfl)
              simp only [Act.put, List.setIfInBounds_toArray, List.set_cons_zero, List.set_cons_succ]
              have hnw : ¬ (Value.slice iA j iC).ownBlock = some w1.heap.size := fun e => by have := hblk.out _ e; have := hs3.out; omega
              have hT9 := q4.blk (hOc.blk Ta.out hntv.out) hnw
              have c1 : w9.cell? ⟨w1.heap.size, 1, none⟩ = some (.slice iA j iC) := hT9.c1
              have f1 := hT9.frozen 1
              have hF4 := fixed_u32 (r3.ref.2.text 2000).2 (by obtain ⟨_, _, _, _, hB2, _⟩ := hRc; exact hB2.2.1)
              have hfin := hide (InsAt.next hIa.out HR3.out hsz oc od hBc hfc hcc hfb hF4 hae.out hOc hRd q1 q2 q3 q4 (by have := HGL.out; have := hs1.out; have := hs3.out; omega) (by have := HHL.out; have := hs1.out; have := hs3.out; omega) hs3.out hntv.out (by have := HHL.out; have := hs1.out; omega))
              clear q1 q2 q3 q4 hT9 hrc hOc hRd hRc hBc hfc hcc hfb hF4 hae hRb oc od
              refine wpAnyH_ready (rs := [12]) (by kernel_rfl) (by simp) ?_
              refine AllReadyH.cons rfl (fun K hK => ?_) AllReadyH.nil
              go_simp
              refine hK.out _ _ trivial (fun _ => ?_)
              clear hK K
              refine wpAnyH_done (by kernel_rfl) ?_ _
              go_wp2_with fail
              exact ⟨⟨j + 1, xs ++ [a], A9, c9, by omega, by simp, hfin.out⟩, by simp [intOf]; omega⟩
    · obtain rfl : N = j := by omega
      have hjn : ¬ (N : Int) < (N : Int) := by omega
      have hsz4 := hide (Nat.le_trans (Nat.le_of_lt hs3.out) hI.only.size)
      obtain ⟨r3, hr3⟩ : ∃ r3, r3 = (Rd.rep Rd.inn N r2).2 := ⟨_, rfl⟩
      have HR3 := hide hr3
      have hrd : RdAt 164 wr g h r3 := by rw [hr3]; exact hI.rd
      clear hlt hj hr3 hI
      go_wp2_with fail
      refine (RCount_any _ g h _ 200 hrd (by decide)).mono ?_
      rintro e w5 ⟨rfl, hR5, o5⟩
      have hM := count_most r3 200
      obtain ⟨M, r4, h4⟩ : ∃ M r4, r3.count 200 = (M, r4) := ⟨_, _, rfl⟩
      have e200 : (200 : Int).toNat = 200 := rfl
      rw [e200] at hR5 ⊢
      rw [h4] at hR5 hM ⊢
      simp only at hR5 hM ⊢
      have T5 := hide (o5.blk HI.out.blk hntv.out)
      have hs5 := hide (show w1.heap.size < w5.heap.size from T5.out.lt)
      have O5 := hide o5
      have hR50 := hide hR5
      clear hrd hR5 o5 e200
      go_wp2_with fail
      go_loopw [26] (fun i ws => ∃ (j : Nat) (ys : List OutV) (oA : Option Addr) (oC : Nat), j ≤ M ∧ i = .int .u64 (j : Int) ∧ OutsAt 164 w5 ws g h w1.heap.size V iA N iC r4 j ys oA oC) (fun i _ => M - (intOf i).toNat)
      case atStart => exact ⟨0, [], none, 0, by omega, rfl, rfl, rfl, hR50.out, T5.out, Nat.le_refl _, World.ownsRow_nil _ _ _ _, (by simp), (by simp), Only.refl _ _⟩
      case round =>
        obtain ⟨j, ys, oA, oC, hj, rfl, hI⟩ := hrel
        have HI2 := hide hI
        by_cases hlt : j < M
        · obtain ⟨r3, hr3⟩ : ∃ r3, r3 = (Rd.rep Rd.out j r4).2 := ⟨_, rfl⟩
          have HR3 := hide hr3
          have hj1 : (j : Int) < (M : Int) := by omega
          have hj0 : (j : Int) ≤ 200 := by omega
          have hj200 : j ≤ 200 := by omega
          obtain ⟨wa, hwa⟩ : ∃ wa, wa = wr.drew := ⟨_, rfl⟩
          have hIa := hide (show OutsAt 164 w5 wa g h w1.heap.size V iA N iC r4 j ys oA oC by rw [hwa]; exact hI.drew)
          have hRc : RdAt 164 wa g h r3 := by rw [hr3]; exact hIa.out.rd
          have Ta := hide hIa.out.blk
          have hOc : Only (fun i => i = g) wa wa := Only.refl _ _
          have hblk := hide (show ∀ q, (Value.slice oA j oC).ownBlock = some q → w5.heap.size ≤ q ∧ q < wa.heap.size from hIa.out.row.lt)
          clear hr3 hI
          go_wp2_with fail
          refine wp_region_held_drew (S := fun _ => True) (by kernel_rfl) trivial (fun _ => ?_)
          rw [← hwa]
          clear hwa
          refine wpAnyH_take (i := 0) (v := ?_) rfl (by kernel_rfl) (by kernel_rfl) (by kernel_rfl) (fun _ _ _ h => h) (Or.inl ⟨by rfl, fun w' _ => ?_⟩) trivial ?_; rotate_left; focus (go_simp; try with_reducible rfl)
          simp only [Act.put, List.setIfInBounds_toArray]
          refine wpAnyH_take (i := 2) (v := ?_) rfl (by kernel_rfl) (by kernel_rfl) (by kernel_rfl) (fun _ _ _ h => h) (Or.inl ⟨by rfl, fun w' _ => ?_⟩) trivial ?_; rotate_left; focus (go_simp; try with_reducible rfl)
          simp only [Act.put]
          refine wpAnyH_ready (rs := [1, 3]) (by kernel_rfl) (by simp) ?_
          refine AllReadyH.cons rfl (fun K hK => ?_) (AllReadyH.cons rfl (fun K hK => ?_) AllReadyH.nil)
          · have c1 := (hOc.blk Ta.out hntv.out).c2
            go_simp
            refine hK.out _ _ trivial (fun _ => ?_)
            clear hK K
            refine wpAnyH_ready (rs := [3]) (by kernel_rfl) (by simp) ?_
            refine AllReadyH.cons rfl (fun K hK => ?_) AllReadyH.nil
            go_simp
            refine (OutRead_any _ g h _ hRc).mono ?_
            rintro e wb ⟨a, rfl, had, hfb, hAb, hRb, ob⟩
            go_simp
            refine hK.out _ _ trivial (fun _ => ?_)
            clear hK K
            have hsz := hOc.size
            have hOc := hOc.trans ob (fun _ _ h => h)
            refine wpAnyH_ready (rs := [4]) (by kernel_rfl) (by simp) ?_
            refine AllReadyH.cons rfl (fun K hK => ?_) AllReadyH.nil
            go_simp
            refine hK.out _ _ trivial (fun _ => ?_)
            clear hK K
            have hOc := hOc.alloc (.cells #[.int .i64 a.v, .slice a.A a.n a.c] 62)
            have hRd := hRb.below ((Below.refl _ wb).alloc (Nat.le_refl _) (.cells #[.int .i64 a.v, .slice a.A a.n a.c] 62))
            refine wpAnyH_ready (rs := [5]) (by kernel_rfl) (by simp) ?_
            refine AllReadyH.cons rfl (fun K hK => ?_) AllReadyH.nil
            have hrc := hOc.own hIa.out.row (fun q hq e => by have := hblk.out q hq; have := HGL.out; have := hs1.out; have := hs5.out; have h9 : q = g := e; omega)
            refine step_row rfl 33 rfl _ _ 35 rfl 62 2 32 Try.underlying35 out_infoR (by decide) w5.heap.size (.slice oA j oC) j (ys.flatMap OutV.cells) (by rfl) hrc (Nat.le_trans hIa.out.only.size hOc.size) wb.heap.size 0 1 1 a.cells (by rfl) rfl (Blk.new wb 62 a.cells).whole (by intro v hv; simp only [OutV.cells, List.mem_cons, List.mem_nil_iff, or_false] at hv; rcases hv with rfl | rfl <;> rfl) (by omega) (by decide) ?_
            intro A9 c9 w9 q1 q2 q3 q4
            refine hK.out _ _ trivial (fun _ => ?_)
            clear hK K
            refine wpAnyH_take (i := 6) (v := ?_) rfl (by kernel_rfl) (by kernel_rfl) (by kernel_rfl) (fun _ _ _ h => h) (Or.inl ⟨by rfl, fun w' _ => ?_⟩) trivial ?_; rotate_left; focus (go_simp; try with_reducible rfl)
            simp only [Act.put, List.setIfInBounds_toArray, List.set_cons_zero, List.set_cons_succ]
            have hnw : ¬ (Value.slice oA j oC).ownBlock = some w1.heap.size := fun e => by have := hblk.out _ e; have := hs5.out; omega
            have hT9 := q4.blk (hOc.blk Ta.out hntv.out) hnw
            have c1 : w9.cell? ⟨w1.heap.size, 2, none⟩ = some (.slice oA j oC) := hT9.c2
            have f1 := hT9.frozen 2
            have hfin := hide (OutsAt.next hIa.out HR3.out hsz had hfb hAb ob.size hOc hRd q1 q2 q3 q4 (by have := HGL.out; have := hs1.out; have := hs5.out; omega) (by have := HHL.out; have := hs1.out; have := hs5.out; omega) hs5.out hntv.out (by have := HHL.out; have := hs1.out; omega))
            clear q1 q2 q3 q4 hT9 hrc hOc hRd hfb had hAb hRb ob
            refine wpAnyH_ready (rs := [7]) (by kernel_rfl) (by simp) ?_
            refine AllReadyH.cons rfl (fun K hK => ?_) AllReadyH.nil
            go_simp
            refine hK.out _ _ trivial (fun _ => ?_)
            clear hK K
            refine wpAnyH_done (by kernel_rfl) ?_ _
            go_wp2_with fail
            exact ⟨⟨j + 1, ys ++ [a], A9, c9, by omega, by simp, hfin.out⟩, by simp [intOf]; omega⟩
          · go_simp
            refine (OutRead_any _ g h _ hRc).mono ?_
            rintro e wb ⟨a, rfl, had, hfb, hAb, hRb, ob⟩
            go_simp
            refine hK.out _ _ trivial (fun _ => ?_)
            clear hK K
            have hsz := hOc.size
            have hOc := hOc.trans ob (fun _ _ h => h)
            refine wpAnyH_ready (rs := [1, 4]) (by kernel_rfl) (by simp) ?_
            refine AllReadyH.cons rfl (fun K hK => ?_) (AllReadyH.cons rfl (fun K hK => ?_) AllReadyH.nil)
            · have c1 := (hOc.blk Ta.out hntv.out).c2
              go_simp
              refine hK.out _ _ trivial (fun _ => ?_)
              clear hK K
              refine wpAnyH_ready (rs := [4]) (by kernel_rfl) (by simp) ?_
              refine AllReadyH.cons rfl (fun K hK => ?_) AllReadyH.nil
              go_simp
              refine hK.out _ _ trivial (fun _ => ?_)
              clear hK K
              have hOc := hOc.alloc (.cells #[.int .i64 a.v, .slice a.A a.n a.c] 62)
              have hRd := hRb.below ((Below.refl _ wb).alloc (Nat.le_refl _) (.cells #[.int .i64 a.v, .slice a.A a.n a.c] 62))
              refine wpAnyH_ready (rs := [5]) (by kernel_rfl) (by simp) ?_
              refine AllReadyH.cons rfl (fun K hK => ?_) AllReadyH.nil
              have hrc := hOc.own hIa.out.row (fun q hq e => by have := hblk.out q hq; have := HGL.out; have := hs1.out; have := hs5.out; have h9 : q = g := e; omega)
              refine step_row rfl 33 rfl _ _ 35 rfl 62 2 32 Try.underlying35 out_infoR (by decide) w5.heap.size (.slice oA j oC) j (ys.flatMap OutV.cells) (by rfl) hrc (Nat.le_trans hIa.out.only.size hOc.size) wb.heap.size 0 1 1 a.cells (by rfl) rfl (Blk.new wb 62 a.cells).whole (by intro v hv; simp only [OutV.cells, List.mem_cons, List.mem_nil_iff, or_false] at hv; rcases hv with rfl | rfl <;> rfl) (by omega) (by decide) ?_
              intro A9 c9 w9 q1 q2 q3 q4
              refine hK.out _ _ trivial (fun _ => ?_)
              clear hK K
              refine wpAnyH_take (i := 6) (v := ?_) rfl (by kernel_rfl) (by kernel_rfl) (by kernel_rfl) (fun _ _ _ h => h) (Or.inl ⟨by rfl, fun w' _ => ?_⟩) trivial ?_; rotate_left; focus (go_simp; try with_reducible rfl)
              simp only [Act.put, List.setIfInBounds_toArray, List.set_cons_zero, List.set_cons_succ]
              have hnw : ¬ (Value.slice oA j oC).ownBlock = some w1.heap.size := fun e => by have := hblk.out _ e; have := hs5.out; omega
              have hT9 := q4.blk (hOc.blk Ta.out hntv.out) hnw
              have c1 : w9.cell? ⟨w1.heap.size, 2, none⟩ = some (.slice oA j oC) := hT9.c2
              have f1 := hT9.frozen 2
              have hfin := hide (OutsAt.next hIa.out HR3.out hsz had hfb hAb ob.size hOc hRd q1 q2 q3 q4 (by have := HGL.out; have := hs1.out; have := hs5.out; omega) (by have := HHL.out; have := hs1.out; have := hs5.out; omega) hs5.out hntv.out (by have := HHL.out; have := hs1.out; omega))
              clear q1 q2 q3 q4 hT9 hrc hOc hRd hfb had hAb hRb ob
              refine wpAnyH_ready (rs := [7]) (by kernel_rfl) (by simp) ?_
              refine AllReadyH.cons rfl (fun K hK => ?_) AllReadyH.nil
              go_simp
              refine hK.out _ _ trivial (fun _ => ?_)
              clear hK K
              refine wpAnyH_done (by kernel_rfl) ?_ _
              go_wp2_with fail
              exact ⟨⟨j + 1, ys ++ [a], A9, c9, by omega, by simp, hfin.out⟩, by simp [intOf]; omega⟩
            · go_simp
              refine hK.out _ _ trivial (fun _ => ?_)
              clear hK K
              have hOc := hOc.alloc (.cells #[.int .i64 a.v, .slice a.A a.n a.c] 62)
              have hRd := hRb.below ((Below.refl _ wb).alloc (Nat.le_refl _) (.cells #[.int .i64 a.v, .slice a.A a.n a.c] 62))
              refine wpAnyH_ready (rs := [1]) (by kernel_rfl) (by simp) ?_
              refine AllReadyH.cons rfl (fun K hK => ?_) AllReadyH.nil
              have c1 := (hOc.blk Ta.out hntv.out).c2
              go_simp
              refine hK.out _ _ trivial (fun _ => ?_)
              clear hK K
              refine wpAnyH_ready (rs := [5]) (by kernel_rfl) (by simp) ?_
              refine AllReadyH.cons rfl (fun K hK => ?_) AllReadyH.nil
              have hrc := hOc.own hIa.out.row (fun q hq e => by have := hblk.out q hq; have := HGL.out; have := hs1.out; have := hs5.out; have h9 : q = g := e; omega)
              refine step_row rfl 33 rfl _ _ 35 rfl 62 2 32 Try.underlying35 out_infoR (by decide) w5.heap.size (.slice oA j oC) j (ys.flatMap OutV.cells) (by rfl) hrc (Nat.le_trans hIa.out.only.size hOc.size) wb.heap.size 0 1 1 a.cells (by rfl) rfl (Blk.new wb 62 a.cells).whole (by intro v hv; simp only [OutV.cells, List.mem_cons, List.mem_nil_iff, or_false] at hv; rcases hv with rfl | rfl <;> rfl) (by omega) (by decide) ?_
              intro A9 c9 w9 q1 q2 q3 q4
              refine hK.out _ _ trivial (fun _ => ?_)
              clear hK K
              refine wpAnyH_take (i := 6) (v := ?_) rfl (by kernel_rfl) (by kernel_rfl) (by kernel_rfl) (fun _ _ _ h => h) (Or.inl ⟨by rfl, fun w' _ => ?_⟩) trivial ?_; rotate_left; focus (go_simp; try with_reducible rfl)
              simp only [Act.put, List.setIfInBounds_toArray, List.set_cons_zero, List.set_cons_succ]
              have hnw : ¬ (Value.slice oA j oC).ownBlock = some w1.heap.size := fun e => by have := hblk.out _ e; have := hs5.out; omega
              have hT9 := q4.blk (hOc.blk Ta.out hntv.out) hnw
              have c1 : w9.cell? ⟨w1.heap.size, 2, none⟩ = some (.slice oA j oC) := hT9.c2
              have f1 := hT9.frozen 2
              have hfin := hide (OutsAt.next hIa.out HR3.out hsz had hfb hAb ob.size hOc hRd q1 q2 q3 q4 (by have := HGL.out; have := hs1.out; have := hs5.out; omega) (by have := HHL.out; have := hs1.out; have := hs5.out; omega) hs5.out hntv.out (by have := HHL.out; have := hs1.out; omega))
              clear q1 q2 q3 q4 hT9 hrc hOc hRd hfb had hAb hRb ob
              refine wpAnyH_ready (rs := [7]) (by kernel_rfl) (by simp) ?_
              refine AllReadyH.cons rfl (fun K hK => ?_) AllReadyH.nil
              go_simp
              refine hK.out _ _ trivial (fun _ => ?_)
              clear hK K
              refine wpAnyH_done (by kernel_rfl) ?_ _
              go_wp2_with fail
              exact ⟨⟨j + 1, ys ++ [a], A9, c9, by omega, by simp, hfin.out⟩, by simp [intOf]; omega⟩
        · obtain rfl : M = j := by omega
          have hjm : ¬ (M : Int) < (M : Int) := by omega
          obtain ⟨r5, hr5⟩ : ∃ r5, r5 = (Rd.rep Rd.out M r4).2 := ⟨_, rfl⟩
          have HR5 := hide hr5
          have hrd : RdAt 164 wr g h r5 := by rw [hr5]; exact hI.rd
          clear hlt hj hr5 hI
          go_wp2_with fail
          refine (word_any _ g h _ hrd).mono ?_
          rintro e w7 ⟨rfl, hR7, o7⟩
          have hU := hide (fixed_u32 r5 (by obtain ⟨_, _, _, _, hB2, _⟩ := hrd; exact hB2.2.1))
          obtain ⟨U, r6, h6⟩ : ∃ U r6, r5.fixed 4 = (U, r6) := ⟨_, _, rfl⟩
          rw [h6] at hR7 hU ⊢
          simp only at hR7 hU ⊢
          have T7 := o7.blk HI2.out.blk hntv.out
          have k3 : w7.cell? ⟨w1.heap.size, 3, none⟩ = some (.int .u32 0) := T7.c3
          have f3 := T7.frozen 3
          have T8 := hide (T7.set_ 3 (.int .u32 (U : Int)))
          have oc8 := Only.cell1 w7 w1.heap.size 3 (.int .u32 (U : Int))
          have hR8 := hR7.keep oc8 (fun e => hntv.out e.symm) (fun e => by have := HHL.out; have := hs1.out; have h9 : h = w1.heap.size := e; omega)
          obtain ⟨w8, hw8⟩ : ∃ w8, w8 = w7.setCell ⟨w1.heap.size, 3, none⟩ (.int .u32 (U : Int)) := ⟨_, rfl⟩
          rw [← hw8] at T8 oc8 hR8
          have O8 := hide ((o7.mono (G := fun i => i = g ∨ i = w1.heap.size) (fun _ _ h => .inl h)).trans oc8 (fun _ _ h => .inr h))
          have hR80 := hide hR8
          have k0 : w8.cell? ⟨w1.heap.size, 0, none⟩ = some (.int .u32 (V : Int)) := T8.out.c0
          have k1 : w8.cell? ⟨w1.heap.size, 1, none⟩ = some (.slice iA N iC) := T8.out.c1
          have k2 : w8.cell? ⟨w1.heap.size, 2, none⟩ = some (.slice oA M oC) := T8.out.c2
          have k4 : w8.cell? ⟨w1.heap.size, 3, none⟩ = some (.int .u32 (U : Int)) := T8.out.c3
          have hO58 := hide (HI2.out.only.trans O8.out (fun _ _ h => h))
          have hO38 := hide ((HI.out.only.trans (O5.out.mono (G := fun i => i = g ∨ i = w1.heap.size) (fun _ _ h => .inl h)) (fun _ _ h => h)).trans hO58.out (fun _ _ h => h))
          have BR8 := hide (hO38.out.blk B3.out (fun e => by rcases e with e | e; exact hnrv.out e; have := hs1.out; omega))
          have hall := hide (txRaw_eq r V r1 N r2 M r4 U r6 h1 h2 (by rw [← HR3.out]; exact h4) (by rw [← HR5.out]; exact h6))
          clear T7 hrd hR7 o7 oc8 hR8 h6
          go_wp2_with fail
          rw [← hw8]
          clear hw8 k3 f3
          refine (Err_any _ g h _ hR80.out).mono ?_
          rintro e w9 ⟨rfl, rfl⟩
          have lz4 : (txcells 0 none 0 0 none 0 0 0).length = 4 := rfl
          have hIT : (Try.prog.info? 37).map (·.size) = some 4 := by kernel_rfl
          have HUT := hide Try.underlying37
          have hone : ∀ (a b c d : Int) (A1 A2 : Option Addr) (n1 c1 n2 c2 : Nat), ∀ v ∈ txcells a A1 n1 c1 A2 n2 c2 d, v.oneCell' = true := by
            intro a b c d A1 A2 n1 c1 n2 c2 v hv
            simp only [txcells, List.mem_cons, List.mem_nil_iff, or_false] at hv
            rcases hv with rfl | rfl | rfl | rfl <;> rfl
          by_cases he : r6.err = 0
          · have hres : r.tx = (⟨(V : Int), (Rd.rep Rd.inn N r2).1, (Rd.rep Rd.out M r4).1, (U : Int)⟩, r6) := by
              unfold Rd.tx
              rw [hall.out]
              simp [he]
            have HRES := hide hres
            clear hres
            go_wp2_with (refine wpList_store_blk rfl 37 _ _ rfl w.heap.size 0 37 (txcells 0 none 0 0 none 0 0 0) (txcells (V : Int) iA N iC oA M oC (U : Int)) (by rfl) (by rfl) BR8.out (Nat.le_refl _) (by exact hIT) (hone _ 0 0 _ _ _ _ _ _ _) ?_; intro w9 o9 z9 b9; simp only [Act.put])
            rw [lay_all (txcells 0 none 0 0 none 0 0 0) _ (by rfl)] at b9
            have hvals := hide (show w.heap.size < w1.heap.size ∧ w1.heap.size < w3.heap.size ∧ w1.heap.size < w5.heap.size ∧ g < w.heap.size ∧ h < w.heap.size from ⟨hs1.out, hs3.out, hs5.out, HGL.out, HHL.out⟩)
            refine bodyPost_ret (results_cell_blk rfl _ _ w.heap.size 37 _ _ (by rfl) b9 HUT.out rfl (by exact hIT)) rfl ?_
            rw [HRES.out]
            obtain ⟨v1, v2, v3, v4, v5⟩ := hvals.out
            refine ⟨⟨(V : Int), iA, N, iC, xs, oA, M, oC, ys, (U : Int)⟩, rfl, ?_, fun w' hw' => ?_, ?_, ?_, ?_⟩
            · show (⟨(V : Int), xs.map InV.d, ys.map OutV.d, (U : Int)⟩ : TxD) = _
              rw [HI.out.data, HI2.out.data]
            · refine ⟨by show (0 : Int) ≤ (V : Int) ∧ (V : Int) ≤ 4294967295; have := hV.out; omega, by show (0 : Int) ≤ (U : Int) ∧ (U : Int) ≤ 4294967295; have := hU.out; omega, ?_, ?_, HI.out.cap, HI2.out.cap⟩
              · exact HI.out.later ((((O5.out.mono (G := fun i => i < w3.heap.size) (fun i _ h => by have h9 : i = g := h; omega)).trans hO58.out (fun i _ h => by rcases h with h | h <;> omega)).trans o9 (fun i _ h => by have h9 : i = w.heap.size := h; omega)).trans hw' (fun i _ h => by have h9 : i < w.heap.size := h; omega))
              · exact HI2.out.later (((O8.out.mono (G := fun i => i < w5.heap.size) (fun i _ h => by rcases h with h | h <;> omega)).trans o9 (fun i _ h => by have h9 : i = w.heap.size := h; omega)).trans hw' (fun i _ h => by have h9 : i < w.heap.size := h; omega))
            · exact ⟨by show N ≤ 1000; omega, by show M ≤ 1000; omega, fun a ha => Nat.le_trans (HI.out.small a ha) (by decide), fun a ha => Nat.le_trans (HI2.out.small a ha) (by decide)⟩
            · exact hR80.out.keep o9 (fun e => by have h9 : g = w.heap.size := e; omega) (fun e => by have h9 : h = w.heap.size := e; omega)
            · exact (O3.out.trans hO38.out (fun i hi e => by rcases e with e | e; exact e; omega)).trans o9 (fun i hi e => by have h9 : i = w.heap.size := e; omega)
          · have hres : r.tx = (zeroT, r6) := by
              unfold Rd.tx
              rw [hall.out]
              simp [he]
            have HRES := hide hres
            have he' : (r6.err == 0) = false := by simpa using he
            clear hres
            go_wp2_with (refine wpList_store_blk rfl 37 _ _ rfl w.heap.size 0 37 (txcells 0 none 0 0 none 0 0 0) (txcells 0 none 0 0 none 0 0 0) (by rfl) (by rfl) BR8.out (Nat.le_refl _) (by exact hIT) (hone _ 0 0 _ _ _ _ _ _ _) ?_; intro w9 o9 z9 b9; simp only [Act.put])
            rw [lay_all (txcells 0 none 0 0 none 0 0 0) _ (by rfl)] at b9
            have hvals := hide (show w.heap.size < w1.heap.size ∧ w1.heap.size < w3.heap.size ∧ w1.heap.size < w5.heap.size ∧ g < w.heap.size ∧ h < w.heap.size from ⟨hs1.out, hs3.out, hs5.out, HGL.out, HHL.out⟩)
            refine bodyPost_ret (results_cell_blk rfl _ _ w.heap.size 37 _ _ (by rfl) b9 HUT.out rfl (by exact hIT)) rfl ?_
            rw [HRES.out]
            obtain ⟨v1, v2, v3, v4, v5⟩ := hvals.out
            refine ⟨⟨0, none, 0, 0, [], none, 0, 0, [], 0⟩, rfl, rfl, fun w' _ => ⟨by decide, by decide, RowsIn.nil _ _ _ _ _, RowsIn.nil _ _ _ _ _, Nat.le_refl _, Nat.le_refl _⟩, ⟨by decide, by decide, by simp, by simp⟩, ?_, ?_⟩
            · exact hR80.out.keep o9 (fun e => by have h9 : g = w.heap.size := e; omega) (fun e => by have h9 : h = w.heap.size := e; omega)
            · exact (O3.out.trans hO38.out (fun i hi e => by rcases e with e | e; exact e; omega)).trans o9 (fun i hi e => by have h9 : i = w.heap.size := e; omega)
end Go.Proofs.Ytbpmcnfmgaolnaa
