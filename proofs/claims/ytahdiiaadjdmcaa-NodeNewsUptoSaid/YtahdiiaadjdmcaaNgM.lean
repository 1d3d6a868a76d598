/-
  How arguments are opened, and how a law's row is closed.
  
  How lists of rows among the arguments are opened.
  How numbers among the arguments are opened.
  How a node's description among the arguments is opened.
-/
import Derived.Test.YtahdiiaadjdmcaaRows
import Derived.Test.YtahdiiaadjdmcaaGround
import Derived.ProofKit
import Derived.OpenShut
import Derived.JoinedCond
import Derived.Deep.Slices
import Derived.Deep.Strs
import Derived.Test.YtahdiiaadjdmcaaGaG
import Derived.Test.YtahdiiaadjdmcaaNgI
namespace Go.Proofs.Ytahdiiaadjdmcaa
open Go.RowKit Go.ChangeShapes Go.WideShapes Go.ChangeAt Go.Deep

theorem own : ownKnob Try.prog.godebug = none := by kernel_rfl
theorem laidOut : laidOutB Try.prog = true := by kernel_rfl

section
variable {H : Type} {enc : TypeId × Value → H} {P : Program} {w : World} {base : Nat} {spare : Nat → Bool} {held : Bool}

theorem spot_none {a : Addr} {v : Value} (h : w.cell? a = some v) : a = ⟨a.block, a.off, none⟩ := by
  obtain ⟨b, o, s⟩ := a
  cases s with
  | none => rfl
  | some s =>
    exfalso
    unfold World.cell? at h
    split at h <;> simp at h

/-- a slice of elements, each of which reads as a thing -/
theorem open_list {α : Type} {t e : TypeId} {size : Nat} (R : List Value → DataW H → α → Prop) (hs : 0 < size) (ht : P.underlying t = some (.slice e)) (hC : P.cellsOf e = size)
    (hR : ∀ n cs y, DataW.trod enc P w base spare held n e cs = some y → ∃ x, R cs y.1 x) {fuel : Nat} {cs : List Value} {x : DataW H × List MemPlace} (h : DataW.trod enc P w base spare held fuel t cs = some x) :
    ∃ (A : Option Addr) (len cap : Nat) (xs : List α) (D : List (DataW H)), cs = [.slice A len cap] ∧ len = xs.length ∧ len = D.length ∧ len ≤ cap ∧ ((x.1 = .nil ∧ xs = []) ∨ ∃ sp, x.1 = .slice D sp) ∧
      (0 < len → ∃ b off, A = some ⟨b, off, none⟩ ∧ ∀ (i : Nat) (y : α), xs[i]? = some y → ∃ cs' d, D[i]? = some d ∧ cs'.length = size ∧ R cs' d y ∧ ∀ j, j < size → w.cell? ⟨b, off + i * size + j, none⟩ = cs'[j]?) := by
  rcases open_slice ht h with ⟨rfl, rfl⟩ | ⟨a, len, cap, m, n, D, Pl, rfl, hb, hl, hm, hmm, rfl, hi⟩
  · exact ⟨none, 0, 0, [], [], rfl, rfl, rfl, Nat.le_refl _, .inl ⟨rfl, rfl⟩, fun h => absurd h (by omega)⟩
  · have hlm : len ≤ m := by rw [hmm]; split <;> omega
    have hex : ∀ i, i < len → ∃ y, ∃ cs', w.cells? base (a.add (i * size)) size = some cs' ∧ R cs' (D i) y := fun i hil => by
      obtain ⟨cs', hc, ht'⟩ := hi i (by omega)
      obtain ⟨y, hy⟩ := hR _ _ _ ht'
      rw [hC] at hc
      exact ⟨y, cs', hc, hy⟩
    by_cases h0 : len = 0
    · subst h0
      exact ⟨some a, 0, cap, [], [], rfl, rfl, rfl, hl, .inr ⟨_, rfl⟩, fun h => absurd h (by omega)⟩
    · let f : Nat → α := fun i => if hi : i < len then Classical.choose (hex i hi) else Classical.choose (hex 0 (by omega))
      have hf : ∀ i, i < len → ∃ cs', w.cells? base (a.add (i * size)) size = some cs' ∧ R cs' (D i) (f i) := fun i hi => by
        have := Classical.choose_spec (hex i hi)
        simp only [f, hi, dite_true]
        exact this
      have ha : a = ⟨a.block, a.off, none⟩ := by
        obtain ⟨cs', hc, _⟩ := hf 0 (by omega)
        obtain ⟨_, hl', hat⟩ := World.cells?_some hc
        have h1 := hat 0 (by omega)
        have h2 : cs'[0]? = some cs'[0] := List.getElem?_eq_getElem (by omega)
        rw [h2] at h1
        have h3 : (a.add (0 * size)).add 0 = a := by simp [Addr.add]
        rw [h3] at h1
        exact spot_none h1
      refine ⟨some a, len, cap, (List.range len).map f, (List.range len).map D, rfl, by simp, by simp, hl, .inr ⟨_, rfl⟩, fun _ => ⟨a.block, a.off, by rw [← ha], fun i y hy => ?_⟩⟩
      have hil : i < len := by
        have := (List.getElem?_eq_some_iff.1 hy).1
        simpa using this
      have hy' : f i = y := by simpa [List.getElem?_map, List.getElem?_range hil] using hy
      obtain ⟨cs', hc, hr⟩ := hf i hil
      obtain ⟨_, hl', hat⟩ := World.cells?_some hc
      refine ⟨cs', D i, by simp [List.getElem?_map, List.getElem?_range hil], hl', by rw [← hy']; exact hr, fun j hj => ?_⟩
      rw [← hat j hj, ha, add_flat, add_flat]

theorem bulk_len {l : List (DataW H)} : l.length ≤ Rows.uptoBulkAll l := by
  induction l with
  | nil => simp [Rows.uptoBulkAll]
  | cons x r ih =>
    have h1 : 1 ≤ Rows.uptoBulk x := by
      cases x with
      | lit l => cases l <;> simp [Rows.uptoBulk]
      | _ => simp [Rows.uptoBulk]
    simp only [Rows.uptoBulkAll, List.length_cons]; omega
theorem bulk_slice {D sp : List (DataW H)} : D.length ≤ Rows.uptoBulk (.slice D sp) := by
  have := bulk_len (l := D)
  simp only [Rows.uptoBulk]; omega
theorem bulk_mem {l : List (DataW H)} {d : DataW H} (h : d ∈ l) : Rows.uptoBulk d ≤ Rows.uptoBulkAll l := by
  induction l with
  | nil => cases h
  | cons x r ih =>
    simp only [Rows.uptoBulkAll]
    cases List.mem_cons.1 h with
    | inl e => subst e; omega
    | inr e => have := ih e; omega

end

section
variable {H : Type} {enc : TypeId × Value → H} {w : World} {base : Nat} {spare : Nat → Bool} {held : Bool}
def ReadsV (cs : List Value) (d : DataW H) (v : V) : Prop := cs = v.cells ∧ d = .agg [.lit (.int .i64 v.k), .lit (.int .i64 v.i), .lit (.string v.t.data.toList)] ∧ v.t.size ≤ maxLen ∧ (Lit.int .i64 v.k).wf = true ∧ (Lit.int .i64 v.i).wf = true
set_option maxRecDepth 100000 in
theorem reads_val (n : Nat) (cs : List Value) (y : DataW H × List MemPlace) (h : DataW.trod enc Try.prog w base spare held n 59 cs = some y) : ∃ v : V, ReadsV cs y.1 v := by
  obtain ⟨y0, y1, y2, m, rfl, hl, h0, h1, h2⟩ := trod_struct3 Try.underlying59 h
  have hc : Try.prog.cellsOf 59 = 3 := by kernel_rfl
  rw [hc] at hl
  match cs, hl with
  | [c0, c1, c2], _ =>
    have e0 : Try.prog.cellsOf 57 = 1 := by kernel_rfl
    have e1 : Try.prog.cellsOf 2 = 1 := by kernel_rfl
    have e2 : Try.prog.cellsOf 9 = 1 := by kernel_rfl
    simp only [e0, e1, e2, List.drop_zero, List.drop_succ_cons, List.take_succ_cons, List.take_zero] at h0 h1 h2
    obtain ⟨k, hk, rfl, wk⟩ := DataW.trod_int Try.underlying57 h0
    obtain ⟨i, hi, rfl, wi⟩ := DataW.trod_int Try.underlying2 h1
    obtain ⟨s, hs, rfl, ws⟩ := DataW.trod_string Try.underlying9 h2
    simp only [List.cons.injEq, and_true] at hk hi hs
    exact ⟨⟨k, i, s⟩, by rw [hk, hi, hs]; rfl, rfl, ws, wk, wi⟩

theorem cellsR_at (r : List V) (P : Nat → Value → Prop) (h : ∀ (i : Nat) (v : V), r[i]? = some v → ∀ (j : Nat) (u : Value), j < 3 → v.cells[j]? = some u → P (i * 3 + j) u) (j : Nat) (u : Value) (hu : (cellsR r)[j]? = some u) : P j u := by
  have hl : j < (cellsR r).length := (List.getElem?_eq_some_iff.1 hu).1
  rw [cellsR_len] at hl
  have hi : j / 3 < r.length := by omega
  have hm : j % 3 < 3 := Nat.mod_lt _ (by omega)
  have hj : j / 3 * 3 + j % 3 = j := by omega
  have := h (j / 3) r[j / 3] (List.getElem?_eq_getElem hi) (j % 3) u hm (by
    rw [← cellsR_get r (j / 3) _ (j % 3) (List.getElem?_eq_getElem hi) hm, hj]; exact hu)
  rwa [hj] at this

set_option maxRecDepth 100000 in
/-- a row that came in -/
theorem open_row {t : TypeId} {fuel : Nat} {cs : List Value} {x : DataW H × List MemPlace} (ht : Try.prog.underlying t = some (.slice 59)) (h : DataW.trod enc Try.prog w base spare held fuel t cs = some x) :
    ∃ (A : Option Addr) (n c : Nat) (r : List V), cs = [.slice A n c] ∧ RowAt w A n r ∧ n ≤ c ∧ n ≤ Rows.uptoBulk x.1 ∧ (∀ v ∈ r, v.t.size ≤ Rows.uptoBulk x.1) ∧ wfR r := by
  obtain ⟨A, n, c, r, D, rfl, hl, hD, hc, hd, hx⟩ := open_list ReadsV (by omega) ht (size := 3) (by kernel_rfl) reads_val h
  have hmem : ∀ v ∈ r, ∃ d cs, d ∈ D ∧ ReadsV cs d v := fun v hv => by
    obtain ⟨i, hi, e⟩ := List.getElem_of_mem hv
    obtain ⟨b, off, _, hat⟩ := hx (by omega)
    obtain ⟨cs', d, hdi, _, hr, _⟩ := hat i v (by rw [List.getElem?_eq_getElem hi, e])
    exact ⟨d, cs', List.mem_of_getElem? hdi, hr⟩
  refine ⟨A, n, c, r, rfl, ⟨hl, by rw [cellsR_len, hl], fun hn => ?_⟩, hc, ?_, fun v hv => ?_, fun v hv => ?_⟩
  · obtain ⟨b, off, hA, hat⟩ := hx hn
    refine ⟨b, off, hA, cellsR_at r (fun j u => w.cell? ⟨b, off + j, none⟩ = some u) fun i v hv j u hj hu => ?_⟩
    obtain ⟨cs', d, _, _, ⟨rfl, _⟩, hcell⟩ := hat i v hv
    show w.cell? ⟨b, off + (i * 3 + j), none⟩ = some u
    rw [← Nat.add_assoc, hcell j hj]
    exact hu
  · rcases hd with ⟨h1, h2⟩ | ⟨sp, h1⟩
    · subst h2; simp at hl; omega
    · rw [h1, hD]; exact bulk_slice
  · rcases hd with ⟨h1, h2⟩ | ⟨sp, h1⟩
    · subst h2; cases hv
    · obtain ⟨d, cs', hdD, _, rfl, _⟩ := hmem v hv
      have h2 := bulk_mem hdD
      rw [h1]
      have h3 : v.t.data.toList.length = v.t.size := Array.length_toList
      simp only [Rows.uptoBulk, Rows.uptoBulkAll] at h2 ⊢
      omega
  · obtain ⟨d, cs', _, _, _, _, wk, wi⟩ := hmem v hv
    simp only [Lit.wf, IntKind.min, IntKind.max, IntKind.signed, IntKind.bits, Bool.and_eq_true, decide_eq_true_eq] at wk wi
    exact ⟨by simpa using wk, by simpa using wi⟩
end

section
variable {H : Type} {enc : TypeId × Value → H} {P : Program}
theorem trodAll_stays (hl : laidOutB P = true) {W W' : World} {sp : Nat → Bool} (hb : Below W.heap.size W W') : ∀ {ts : List TypeId} {vs : List Value} {ds : List (DataW H)} {ps : List MemPlace},
    (ts.all fun t => P.readableRec t && decide (t < P.types.size)) = true → DataW.TrodAll enc P W 0 (fun _ => true) true ts vs ds ps → (∀ p ∈ ps, p.block < W.heap.size) → (∀ p ∈ ps, sp p.block = true) → DataW.TrodAll enc P W' 0 sp true ts vs ds ps
  | [], vs, ds, ps, _, h, _, _ => by
    obtain ⟨rfl, rfl, rfl⟩ := trodAll_nil h
    exact trodAll_mk0
  | t :: ts, vs, ds, ps, hr, h, hlt, hsp => by
    obtain ⟨v, vs', d, ds', p, q, rfl, rfl, rfl, h0, h1⟩ := trodAll_cons h
    simp only [List.all_cons, Bool.and_eq_true, decide_eq_true_eq] at hr
    exact trodAll_cons_mk (WideElems.Trod_stays hl hr.1.1 hr.1.2 h0 (fun x hx => hb.same (hlt x (List.mem_append_left _ hx))) (fun x hx => hsp x (List.mem_append_left _ hx)))
      (trodAll_stays hl hb hr.2 h1 (fun x hx => hlt x (List.mem_append_right _ hx)) (fun x hx => hsp x (List.mem_append_right _ hx)))

/-- A LAW's END: it returned true, and what was there stays as it was. -/
theorem law_post (hl : laidOutB P = true) {f : Func} {tb : TypeId} {s : ChangeSpec} {apart fresh handsOn : Bool} {W W' : World} {args : Array Value} {ds gs : List (DataW H)} {before : List MemPlace}
    (hr : (f.params.toList.all fun t => P.readableRec t && decide (t < P.types.size)) = true) (hrt : f.resultTypes = #[tb]) (htb : P.underlying tb = some .bool) (hv : s.vars = [])
    (hfn : s.fn H (ds ++ gs) = { results := [.lit (.bool true)], args := ds }) (hW : DataW.Whole enc P f.params.toList s.vars apart W args.toList ds gs before) (hb : Ext W W') :
    s.post enc P f apart fresh handsOn false W args (.bool true) W' := by
  have hlt : ∀ p ∈ before, p.block < W.heap.size := fun p hp => hW.lt p hp
  have hW0 := hW
  obtain ⟨p, q, hA, hV, rfl, hz, hn⟩ := hW
  rw [hv] at hV
  obtain ⟨rfl, rfl⟩ := trodVars_none hV
  refine ⟨ds, [], p ++ [], [], p, [], hW0, ?_, ?_, ?_, hb.frame _, fun h => by cases h⟩
  · rw [hfn, hrt]
    exact trodAll_mk1 (shut_bool htb true)
  · rw [hfn]
    exact trodAll_stays hl hb hr hA (fun x hx => hlt x (List.mem_append_left _ hx)) (fun x hx => by simpa using hlt x (List.mem_append_left _ hx))
  · rw [hv, hfn]; rfl
end
end Go.Proofs.Ytahdiiaadjdmcaa

namespace Go.Proofs.Ytahdiiaadjdmcaa
open Go.RowKit Go.ChangeShapes Go.WideShapes Go.ChangeAt Go.Deep
section
variable {H : Type} {enc : TypeId × Value → H} {w : World} {base : Nat} {spare : Nat → Bool} {held : Bool}

theorem int_range {x : Int} (h : (Lit.int .i64 x).wf = true) : -9223372036854775808 ≤ x ∧ x ≤ 9223372036854775807 := by
  simp only [Lit.wf, IntKind.min, IntKind.max, IntKind.signed, IntKind.bits, Bool.and_eq_true, decide_eq_true_eq] at h
  simpa using h

set_option maxRecDepth 100000 in
/-- numbers that came in -/
theorem open_ints' {t : TypeId} {fuel : Nat} {cs : List Value} {x : DataW H × List MemPlace} (ht : Try.prog.underlying t = some (.slice 3)) (h : DataW.trod enc Try.prog w base spare held fuel t cs = some x) :
    ∃ (A : Option Addr) (n c : Nat) (xs : List Int), cs = [.slice A n c] ∧ NumAt w A n xs ∧ n ≤ c ∧ n ≤ Rows.uptoBulk x.1 ∧ wfI xs := by
  obtain ⟨A, n, c, r, D, rfl, hl, hD, hc, hd, hx⟩ := open_list (fun cs (_ : DataW H) (v : Int) => cs = [.int .i64 v] ∧ (Lit.int .i64 v).wf = true) (by omega) ht (size := 1) (by kernel_rfl)
    (fun n cs y hy => by
      obtain ⟨k, hk, _, wk⟩ := DataW.trod_int Try.underlying3 hy
      exact ⟨k, hk, wk⟩) h
  refine ⟨A, n, c, r, rfl, ⟨hl, by rw [List.length_map]; omega, fun hn => ?_⟩, hc, ?_, fun v hv => ?_⟩
  · obtain ⟨b, off, hA, hat⟩ := hx hn
    refine ⟨b, off, hA, fun j u hu => ?_⟩
    simp only [List.getElem?_map, Option.map_eq_some_iff] at hu
    obtain ⟨v, hv, rfl⟩ := hu
    obtain ⟨cs', d, _, _, ⟨rfl, _⟩, hcell⟩ := hat j v hv
    have := hcell 0 (by omega)
    simpa using this
  · rcases hd with ⟨h1, h2⟩ | ⟨sp, h1⟩
    · subst h2; simp at hl; omega
    · rw [h1, hD]; exact bulk_slice
  · obtain ⟨i, hi, e⟩ := List.getElem_of_mem hv
    obtain ⟨b, off, _, hat⟩ := hx (by omega)
    obtain ⟨cs', d, _, _, hr, _⟩ := hat i v (by rw [List.getElem?_eq_getElem hi, e])
    exact int_range hr.2
end
end Go.Proofs.Ytahdiiaadjdmcaa

namespace Go.Proofs.Ytahdiiaadjdmcaa
open Go.RowKit Go.ChangeShapes Go.WideShapes Go.ChangeAt Go.Deep
section
variable {H : Type} {enc : TypeId × Value → H} {w : World} {base : Nat} {spare : Nat → Bool} {held : Bool}

def ReadsRw (w : World) (cs : List Value) (d : DataW H) (r : List V) : Prop := RRow w cs r ∧ OneCells cs ∧ r.length ≤ Rows.uptoBulk d ∧ (∀ v ∈ r, v.t.size ≤ Rows.uptoBulk d) ∧ wfR r
theorem reads_rw (n : Nat) (cs : List Value) (y : DataW H × List MemPlace) (h : DataW.trod enc Try.prog w base spare held n 62 cs = some y) : ∃ r : List V, ReadsRw w cs y.1 r := by
  obtain ⟨A, k, c, r, rfl, h1, _, h3, h4, h5⟩ := open_row Try.underlying62 h
  exact ⟨r, ⟨A, k, c, rfl, h1⟩, fun v hv => by obtain rfl := List.mem_singleton.1 hv; rfl, by have := h1.len; omega, h4, h5⟩
set_option maxRecDepth 100000 in
/-- rows that came in -/
theorem open_rows {t : TypeId} {fuel : Nat} {cs : List Value} {x : DataW H × List MemPlace} (ht : Try.prog.underlying t = some (.slice 62)) (h : DataW.trod enc Try.prog w base spare held fuel t cs = some x) :
    ∃ (A : Option Addr) (n c : Nat) (rows : List (List V)), cs = [.slice A n c] ∧ LAt RRow 1 w A n rows ∧ n ≤ c ∧ n ≤ Rows.uptoBulk x.1 ∧ (∀ r ∈ rows, r.length ≤ Rows.uptoBulk x.1 ∧ ∀ v ∈ r, v.t.size ≤ Rows.uptoBulk x.1) ∧ ∀ r ∈ rows, wfR r := by
  obtain ⟨A, n, c, rows, D, rfl, hl, hD, hc, hd, hx⟩ := open_list (ReadsRw w) (by omega) ht (size := 1) (by kernel_rfl) reads_rw h
  have hmem : ∀ r ∈ rows, ∃ cs d, d ∈ D ∧ ReadsRw w cs d r := fun r hr => by
    obtain ⟨i, hi, e⟩ := List.getElem_of_mem hr
    obtain ⟨b, off, _, hat⟩ := hx (by omega)
    obtain ⟨cs, d, h1, _, h3, _⟩ := hat i r (by rw [List.getElem?_eq_getElem hi, e])
    exact ⟨cs, d, List.mem_of_getElem? h1, h3⟩
  have hbulk : n ≤ Rows.uptoBulk x.1 ∧ ∀ d ∈ D, Rows.uptoBulk d ≤ Rows.uptoBulk x.1 := by
    rcases hd with ⟨h1, h2⟩ | ⟨sp, h1⟩
    · subst h2
      have h0 : n = 0 := hl
      have hD0 : D = [] := List.eq_nil_of_length_eq_zero (by omega)
      subst hD0
      exact ⟨by omega, fun d hd => by cases hd⟩
    · rw [h1, hD]
      refine ⟨bulk_slice, fun d hd => ?_⟩
      have := bulk_mem hd
      simp only [Rows.uptoBulk]; omega
  refine ⟨A, n, c, rows, rfl, ?_, hc, hbulk.1, fun r hr => ?_, fun r hr => ?_⟩
  · rcases Nat.eq_zero_or_pos n with h0 | h0
    · subst h0
      have : rows = [] := List.eq_nil_of_length_eq_zero hl.symm
      subst this
      exact LAt.nil _
    · obtain ⟨b, off, rfl, hat⟩ := hx h0
      obtain ⟨cells, e1, e2⟩ := lat_mk (R := RRow) (s := 1) (w := w) (b := b) rows off (fun i y hy => by
        obtain ⟨cs, d, _, h2, h3, h4⟩ := hat i y hy
        exact ⟨cs, h2, h3.2.1, h3.1, h4⟩)
      exact ⟨hl, cells, e1, by rw [e1.len, hl], fun _ => ⟨b, off, rfl, e2⟩⟩
  · obtain ⟨cs, d, hdD, _, _, h3, h4, _⟩ := hmem r hr
    have := hbulk.2 d hdD
    exact ⟨by omega, fun v hv => Nat.le_trans (h4 v hv) this⟩
  · obtain ⟨cs, d, hdD, _, _, _, _, h5⟩ := hmem r hr
    exact h5
end
end Go.Proofs.Ytahdiiaadjdmcaa

namespace Go.Proofs.Ytahdiiaadjdmcaa
open Go.RowKit Go.ChangeShapes Go.WideShapes Go.ChangeAt Go.Deep

section
variable {H : Type} {enc : TypeId × Value → H} {w : World} {base : Nat} {spare : Nat → Bool} {held : Bool}
set_option maxRecDepth 100000 in
theorem open_int {t : TypeId} {v : Value} {d : DataW H} {p : List MemPlace} {b0 : Nat} (ht : Try.prog.underlying t = some (.int .i64)) (hok : Value.okWide Try.prog w .any base t v) (h : DataW.Trod enc Try.prog w b0 spare held t v d p) :
    ∃ x : Int, v = .int .i64 x ∧ d = .lit (.int .i64 x) ∧ p = [] ∧ (Lit.int .i64 x).wf = true := by
  obtain ⟨x, rfl⟩ := okWide_int ht hok
  obtain ⟨f, h⟩ := h
  obtain ⟨k, hk, hd, wk⟩ := DataW.trod_int ht h
  simp only [Value.cells, List.cons.injEq, and_true, Value.int.injEq, true_and] at hk
  subst hk
  injection hd with h1 h2
  exact ⟨_, rfl, h1, h2, wk⟩
end
end Go.Proofs.Ytahdiiaadjdmcaa

namespace Go.Proofs.Ytahdiiaadjdmcaa
open Go.RowKit Go.ChangeShapes Go.WideShapes Go.ChangeAt Go.Deep
section
variable {H : Type} {enc : TypeId × Value → H} {w : World} {base : Nat} {spare : Nat → Bool} {held : Bool}
theorem trod_struct6 {P : Program} {t : TypeId} {f0 f1 f2 f3 f4 f5 : Field} {fuel : Nat} {cs : List Value} {x : DataW H × List MemPlace} (ht : P.underlying t = some (.struct #[f0, f1, f2, f3, f4, f5])) (h : DataW.trod enc P w base spare held fuel t cs = some x) :
    ∃ y0 y1 y2 y3 y4 y5 n, x.1 = .agg [y0.1, y1.1, y2.1, y3.1, y4.1, y5.1] ∧ cs.length = P.cellsOf t ∧ DataW.trod enc P w base spare held n f0.type ((cs.drop f0.offset).take (P.cellsOf f0.type)) = some y0 ∧
      DataW.trod enc P w base spare held n f1.type ((cs.drop f1.offset).take (P.cellsOf f1.type)) = some y1 ∧ DataW.trod enc P w base spare held n f2.type ((cs.drop f2.offset).take (P.cellsOf f2.type)) = some y2 ∧
      DataW.trod enc P w base spare held n f3.type ((cs.drop f3.offset).take (P.cellsOf f3.type)) = some y3 ∧ DataW.trod enc P w base spare held n f4.type ((cs.drop f4.offset).take (P.cellsOf f4.type)) = some y4 ∧
      DataW.trod enc P w base spare held n f5.type ((cs.drop f5.offset).take (P.cellsOf f5.type)) = some y5 := by
  obtain ⟨xs, n, _, rfl, hl, hlen, hf⟩ := DataW.trod_struct ht h
  match xs, hlen with
  | [y0, y1, y2, y3, y4, y5], _ => exact ⟨y0, y1, y2, y3, y4, y5, n, by simp, hl, by simpa using hf 0 f0 rfl, by simpa using hf 1 f1 rfl, by simpa using hf 2 f2 rfl, by simpa using hf 3 f3 rfl, by simpa using hf 4 f4 rfl, by simpa using hf 5 f5 rfl⟩
set_option maxRecDepth 100000 in
/-- a description that came in -/
theorem open_spec {fuel : Nat} {cs : List Value} {x : DataW H × List MemPlace} (h : DataW.trod enc Try.prog w base spare held fuel 25 cs = some x) :
    ∃ (s : SP) (L : SPL), cs = (specC s L).toList ∧ NumAt w L.kA s.keep.length s.keep ∧ NumAt w L.sA s.side.length s.side ∧ NumAt w L.uA s.up.length s.up ∧ s.keep.length ≤ Rows.uptoBulk x.1 ∧ s.side.length ≤ Rows.uptoBulk x.1 ∧ s.up.length ≤ Rows.uptoBulk x.1 := by
  obtain ⟨y0, y1, y2, y3, y4, y5, m, hx, hl, h0, h1, h2, h3, h4, h5⟩ := trod_struct6 Try.underlying25 h
  have hc : Try.prog.cellsOf 25 = 6 := by kernel_rfl
  rw [hc] at hl
  match cs, hl with
  | [c0, c1, c2, c3, c4, c5], _ =>
    have e0 : Try.prog.cellsOf 22 = 1 := by kernel_rfl
    have e1 : Try.prog.cellsOf 3 = 1 := by kernel_rfl
    have e2 : Try.prog.cellsOf 23 = 1 := by kernel_rfl
    simp only [e0, e1, e2, List.drop_zero, List.drop_succ_cons, List.take_succ_cons, List.take_zero] at h0 h1 h2 h3 h4 h5
    obtain ⟨k, hk, -, -⟩ := DataW.trod_int Try.underlying22 h0
    obtain ⟨q, hq, -, -⟩ := DataW.trod_int Try.underlying3 h1
    obtain ⟨A2, n2, c2', x2, hr2, g2, -, l2, -⟩ := open_ints' Try.underlying23 h2
    obtain ⟨A3, n3, c3', x3, hr3, g3, -, l3, -⟩ := open_ints' Try.underlying23 h3
    obtain ⟨A4, n4, c4', x4, hr4, g4, -, l4, -⟩ := open_ints' Try.underlying23 h4
    obtain ⟨p, hp, -, -⟩ := DataW.trod_int Try.underlying3 h5
    simp only [List.cons.injEq, and_true] at hk hq hr2 hr3 hr4 hp
    subst hk; subst hq; subst hr2; subst hr3; subst hr4; subst hp
    have k2 := g2.len
    have k3 := g3.len
    have k4 := g4.len
    subst k2
    subst k3
    subst k4
    refine ⟨⟨k, q, x2, x3, x4, p⟩, ⟨A2, c2', A3, c3', A4, c4'⟩, rfl, g2, g3, g4, ?_, ?_, ?_⟩ <;> (rw [hx]; simp only [Rows.uptoBulk, Rows.uptoBulkAll]; omega)
end
end Go.Proofs.Ytahdiiaadjdmcaa
