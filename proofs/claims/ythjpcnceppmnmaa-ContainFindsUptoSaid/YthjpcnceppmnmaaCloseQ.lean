/-
  How queries among the arguments are opened.
-/
import Derived.Test.YthjpcnceppmnmaaClose
import Derived.Test.YthjpcnceppmnmaaLs
namespace Go.Proofs.Ythjpcnceppmnmaa
open Go.RowKit Go.ChangeShapes Go.WideShapes Go.ChangeAt Go.Deep

theorem smallM.mono {M M' : Nat} {q : Qy} (h : smallM M q) (hM : M ≤ M') : smallM M' q :=
  ⟨Nat.le_trans h.name hM, Nat.le_trans h.headL hM, fun t ht => Nat.le_trans (h.heads t ht) hM, Nat.le_trans h.atomsL hM, fun a ha => (h.atoms a ha).mono hM⟩

section
variable {H : Type} {enc : TypeId × Value → H} {w : World} {base : Nat} {spare : Nat → Bool} {held : Bool}

theorem lat_open {α : Type} {R : World → List Value → α → Prop} {Rr : List Value → DataW H → α → Prop} {s : Nat} {A : Option Addr} {n : Nat} {xs : List α} {D : List (DataW H)} (hn : n = xs.length)
    (hR : ∀ cs d x, Rr cs d x → R w cs x ∧ OneCells cs)
    (h : 0 < n → ∃ b off, A = some ⟨b, off, none⟩ ∧ ∀ (i : Nat) (y : α), xs[i]? = some y → ∃ cs' d, D[i]? = some d ∧ cs'.length = s ∧ Rr cs' d y ∧ ∀ j, j < s → w.cell? ⟨b, off + i * s + j, none⟩ = cs'[j]?) : LAt R s w A n xs := by
  rcases Nat.eq_zero_or_pos n with h0 | h0
  · subst h0
    have : xs = [] := List.eq_nil_of_length_eq_zero hn.symm
    subst this
    exact LAt.nil _
  · obtain ⟨b, off, rfl, hat⟩ := h h0
    obtain ⟨cells, e1, e2⟩ := lat_mk (R := R) (s := s) (w := w) (b := b) xs off (fun i y hy => by
      obtain ⟨cs, d, _, h2, h3, h4⟩ := hat i y hy
      obtain ⟨h5, h6⟩ := hR _ _ _ h3
      exact ⟨cs, h2, h6, h5, h4⟩)
    exact ⟨hn, cells, e1, by rw [e1.len, hn], fun _ => ⟨b, off, rfl, e2⟩⟩
/-- a fact of each element's datum -/
theorem each_open {α : Type} {Rr : List Value → DataW H → α → Prop} {s : Nat} {A : Option Addr} {n : Nat} {xs : List α} {D : List (DataW H)} (hn : n = xs.length)
    (h : 0 < n → ∃ b off, A = some ⟨b, off, none⟩ ∧ ∀ (i : Nat) (y : α), xs[i]? = some y → ∃ cs' d, D[i]? = some d ∧ cs'.length = s ∧ Rr cs' d y ∧ ∀ j, j < s → w.cell? ⟨b, off + i * s + j, none⟩ = cs'[j]?) :
    ∀ x ∈ xs, ∃ cs d, d ∈ D ∧ Rr cs d x := fun x hx => by
  obtain ⟨i, hi, e⟩ := List.getElem_of_mem hx
  obtain ⟨b, off, _, hat⟩ := h (by omega)
  obtain ⟨cs, d, h1, _, h3, _⟩ := hat i x (by rw [List.getElem?_eq_getElem hi, e])
  exact ⟨cs, d, List.mem_of_getElem? h1, h3⟩
theorem bulk_list {x : DataW H} {α : Type} {xs : List α} {D : List (DataW H)} (hd : (x = .nil ∧ xs = []) ∨ ∃ sp, x = .slice D sp) (hl : xs.length = D.length) : xs.length ≤ Rows.uptoBulk x ∧ ∀ d ∈ D, Rows.uptoBulk d ≤ Rows.uptoBulk x := by
  rcases hd with ⟨rfl, rfl⟩ | ⟨sp, rfl⟩
  · have : D = [] := List.eq_nil_of_length_eq_zero hl.symm
    subst this
    exact ⟨by simp, fun d hd => by cases hd⟩
  · refine ⟨by rw [hl]; exact bulk_slice, fun d hd => ?_⟩
    have := bulk_mem hd
    simp only [Rows.uptoBulk]; omega

def ReadsS (cs : List Value) (d : DataW H) (s : ByteArray) : Prop := cs = [.string s] ∧ s.size ≤ Rows.uptoBulk d
theorem reads_str (n : Nat) (cs : List Value) (y : DataW H × List MemPlace) (h : DataW.trod enc Try.prog w base spare held n 9 cs = some y) : ∃ s : ByteArray, ReadsS cs y.1 s := by
  obtain ⟨s, hs, rfl, _⟩ := DataW.trod_string Try.underlying9 h
  exact ⟨s, hs, by simp only [Rows.uptoBulk]; have : s.data.toList.length = s.size := Array.length_toList; omega⟩

def ReadsT (cs : List Value) (d : DataW H) (t : Tm) : Prop := cs = t.cells ∧ t.v.size ≤ Rows.uptoBulk d ∧ t.c.t.size ≤ Rows.uptoBulk d ∧ wfV t.c
set_option maxRecDepth 100000 in
theorem reads_term (n : Nat) (cs : List Value) (y : DataW H × List MemPlace) (h : DataW.trod enc Try.prog w base spare held n 76 cs = some y) : ∃ t : Tm, ReadsT cs y.1 t := by
  obtain ⟨y0, y1, m, rfl, hl, h0, h1⟩ := trod_struct2 Try.underlying76 h
  have hc : Try.prog.cellsOf 76 = 4 := by kernel_rfl
  rw [hc] at hl
  match cs, hl with
  | [c0, c1, c2, c3], _ =>
    have e0 : Try.prog.cellsOf 9 = 1 := by kernel_rfl
    have e1 : Try.prog.cellsOf 74 = 3 := by kernel_rfl
    simp only [e0, e1, List.drop_zero, List.drop_succ_cons, List.take_succ_cons, List.take_zero] at h0 h1
    obtain ⟨s, hs, rfl, ws⟩ := DataW.trod_string Try.underlying9 h0
    obtain ⟨v, hv, hd, ht, wk, wi⟩ := reads_val _ _ _ h1
    simp only [List.cons.injEq, and_true] at hs
    simp only [V.cells, List.cons.injEq, and_true] at hv
    refine ⟨⟨s, v⟩, ?_, ?_, ?_, ?_⟩
    · rw [hs, hv.1, hv.2.1, hv.2.2]; rfl
    · have : s.data.toList.length = s.size := Array.length_toList
      simp only [Rows.uptoBulk, Rows.uptoBulkAll]; omega
    · have : v.t.data.toList.length = v.t.size := Array.length_toList
      simp only [hd, Rows.uptoBulk, Rows.uptoBulkAll]; omega
    · simp only [Lit.wf, IntKind.min, IntKind.max, IntKind.signed, IntKind.bits, Bool.and_eq_true, decide_eq_true_eq] at wk wi
      exact ⟨by simpa using wk, by simpa using wi⟩

def ReadsA (w : World) (cs : List Value) (d : DataW H) (a : Atm) : Prop := RA w cs a ∧ OneCells cs ∧ smallA (Rows.uptoBulk d) a
set_option maxRecDepth 100000 in
theorem reads_atom (n : Nat) (cs : List Value) (y : DataW H × List MemPlace) (h : DataW.trod enc Try.prog w base spare held n 43 cs = some y) : ∃ a : Atm, ReadsA w cs y.1 a := by
  obtain ⟨y0, y1, m, rfl, hl, h0, h1⟩ := trod_struct2 Try.underlying43 h
  have hc : Try.prog.cellsOf 43 = 2 := by kernel_rfl
  rw [hc] at hl
  match cs, hl with
  | [c0, c1], _ =>
    have e0 : Try.prog.cellsOf 9 = 1 := by kernel_rfl
    have e1 : Try.prog.cellsOf 41 = 1 := by kernel_rfl
    simp only [e0, e1, List.drop_zero, List.drop_succ_cons, List.take_succ_cons, List.take_zero] at h0 h1
    obtain ⟨s, hs, rfl, ws⟩ := DataW.trod_string Try.underlying9 h0
    obtain ⟨A, k, c, ts, D, he, hk, hD, _, hd, hx⟩ := open_list ReadsT (by omega) Try.underlying41 (size := 4) (by kernel_rfl) reads_term h1
    simp only [List.cons.injEq, and_true] at hs he
    obtain ⟨b1, b2⟩ := bulk_list hd (hk.symm.trans hD)
    have hall := each_open hk hx
    refine ⟨⟨s, ts⟩, ⟨A, k, c, by rw [hs, he], lat_open hk (fun cs d x hr => ⟨hr.1, by rw [hr.1]; exact tm_one x⟩) hx⟩, ?_, ?_, ?_, ?_⟩
    · intro v hv
      rw [hs, he] at hv
      simp only [List.mem_cons, List.not_mem_nil, or_false] at hv
      rcases hv with rfl | rfl <;> rfl
    · have : s.data.toList.length = s.size := Array.length_toList
      simp only [Rows.uptoBulk, Rows.uptoBulkAll]; omega
    · simp only [Rows.uptoBulk, Rows.uptoBulkAll]; omega
    · intro t ht
      obtain ⟨cs, d, hdD, _, h2, h3, h4⟩ := hall t ht
      have := b2 d hdD
      refine ⟨?_, ?_, h4⟩ <;> (simp only [Rows.uptoBulk, Rows.uptoBulkAll]; omega)

set_option maxRecDepth 100000 in
/-- a query that came in -/
theorem open_query {t : TypeId} {fuel : Nat} {cs : List Value} {x : DataW H × List MemPlace} (ht : Try.prog.underlying t = Try.prog.underlying 25) (hc : Try.prog.cellsOf t = 3) (h : DataW.trod enc Try.prog w base spare held fuel t cs = some x) :
    ∃ (q : Qy) (L : QLoc), cs = [.string q.name, .slice L.A L.n L.c, .slice L.B L.m L.d] ∧ QAt w L q ∧ smallM (Rows.uptoBulk x.1) q := by
  obtain ⟨y0, y1, y2, m, rfl, hl, h0, h1, h2⟩ := trod_struct3 (ht.trans Try.underlying25) h
  rw [hc] at hl
  match cs, hl with
  | [c0, c1, c2], _ =>
    have e0 : Try.prog.cellsOf 9 = 1 := by kernel_rfl
    have e1 : Try.prog.cellsOf 22 = 1 := by kernel_rfl
    have e2 : Try.prog.cellsOf 23 = 1 := by kernel_rfl
    simp only [e0, e1, e2, List.drop_zero, List.drop_succ_cons, List.take_succ_cons, List.take_zero] at h0 h1 h2
    obtain ⟨s, hs, rfl, ws⟩ := DataW.trod_string Try.underlying9 h0
    obtain ⟨A, k, c, hd_, D, he, hk, hD, hkc, hd, hx⟩ := open_list ReadsS (by omega) Try.underlying22 (size := 1) (by kernel_rfl) reads_str h1
    obtain ⟨B, k2, c2, as_, D2, he2, hk2, hD2, _, hd2, hx2⟩ := open_list (ReadsA w) (by omega) Try.underlying23 (size := 2) (by kernel_rfl) reads_atom h2
    simp only [List.cons.injEq, and_true] at hs he he2
    obtain ⟨b1, b2⟩ := bulk_list hd (hk.symm.trans hD)
    obtain ⟨b3, b4⟩ := bulk_list hd2 (hk2.symm.trans hD2)
    have hall := each_open hk hx
    have hall2 := each_open hk2 hx2
    have hb : Rows.uptoBulk y1.1 ≤ Rows.uptoBulk (.agg [.lit (.string s.data.toList), y1.1, y2.1]) := by simp only [Rows.uptoBulk, Rows.uptoBulkAll]; omega
    have hb2 : Rows.uptoBulk y2.1 ≤ Rows.uptoBulk (.agg [.lit (.string s.data.toList), y1.1, y2.1]) := by simp only [Rows.uptoBulk, Rows.uptoBulkAll]; omega
    refine ⟨⟨s, hd_, as_⟩, ⟨A, k, c, B, k2, c2⟩, by rw [hs, he, he2], ⟨lat_open hk (fun cs d x hr => ⟨hr.1, by rw [hr.1]; exact fun v hv => by obtain rfl := List.mem_singleton.1 hv; rfl⟩) hx, lat_open hk2 (fun cs d x hr => ⟨hr.1, hr.2.1⟩) hx2, hkc⟩, ?_, ?_, ?_, ?_, ?_⟩
    · have : s.data.toList.length = s.size := Array.length_toList
      simp only [Rows.uptoBulk, Rows.uptoBulkAll]; omega
    · exact Nat.le_trans b1 hb
    · intro t ht
      obtain ⟨cs, d, hdD, _, h2⟩ := hall t ht
      exact Nat.le_trans (Nat.le_trans h2 (b2 d hdD)) hb
    · exact Nat.le_trans b3 hb2
    · intro a ha
      obtain ⟨cs, d, hdD, _, _, h2⟩ := hall2 a ha
      exact h2.mono (Nat.le_trans (b4 d hdD) hb2)
end
end Go.Proofs.Ythjpcnceppmnmaa
