/-
  StoreMemory: the law's marks, and what it holds.
-/
import Derived.Test.YtifloafhpeeepaaGreatStwA
import Derived.Test.YtifloafhpeeepaaGreatStuB
namespace Go.Proofs.YtifloafhpeeepaaGreat
open Go.RowKit

def mV (n : Nat) : V := ⟨1, (n : Int) * 7919 + 1099511627776, ⟨#[]⟩⟩
set_option maxRecDepth 100000 in
theorem mark_st (n : Nat) (h : n ≤ 100000) (w : World) : Calls Tryz.prog 16 #[.int .i64 n] w fun e w' => e = .returned (.agg #[.int .i64 1, .int .i64 ((n : Int) * 7919 + 1099511627776), .string ⟨#[]⟩]) ∧ Ext w w' := by
  have hw1 : IntKind.i64.wrap ((n : Int) * 7919) = (n : Int) * 7919 := IntWalk.i64_in _ (by omega)
  have hw2 : IntKind.i64.wrap ((n : Int) * 7919 + 1099511627776) = (n : Int) * 7919 + 1099511627776 := IntWalk.i64_in _ (by omega)
  go_enter Tryz.func16, Tryz.ntmps16
  go_wp2_with fail
  refine bodyPost_ret (results_cell_row rfl _ _ w.heap.size 43 _ (0, 0) _ rfl (heap_alloc_new _ _) Tryz.underlying43 rfl (by kernel_rfl)) rfl ?_
  exact ⟨rfl, Ext.alloc w _⟩
def markTo (b : Nat) : Nat → List V → List V
  | 0, r => r
  | k + 1, r => (markTo b k r).set k (mV (b + k))
theorem markTo_len (b : Nat) (r : List V) : ∀ k, (markTo b k r).length = r.length
  | 0 => rfl
  | k + 1 => by rw [markTo, List.length_set, markTo_len b r k]
theorem markTo_get (b : Nat) (r : List V) : ∀ k q, q < r.length → q < k → (markTo b k r)[q]? = some (mV (b + q))
  | 0, q, _, h => by omega
  | k + 1, q, hq, h => by
    rw [markTo]
    by_cases hk : q = k
    · subst hk
      rw [List.getElem?_set_self (by rw [markTo_len]; exact hq)]
    · rw [List.getElem?_set_ne (Ne.symm hk)]
      exact markTo_get b r k q hq (by omega)
def rowsTo (i : Nat) : Nat → List (List V) → List (List V)
  | 0, R => R
  | j + 1, R => (rowsTo i j R).set j (markTo (i * 1000 + j * 3) (R[j]?.getD []).length (R[j]?.getD []))
theorem rowsTo_len (i : Nat) (R : List (List V)) : ∀ j, (rowsTo i j R).length = R.length
  | 0 => rfl
  | j + 1 => by rw [rowsTo, List.length_set, rowsTo_len i R j]
theorem rowsTo_old (i : Nat) (R : List (List V)) : ∀ j q, j ≤ q → (rowsTo i j R)[q]? = R[q]?
  | 0, q, _ => rfl
  | j + 1, q, h => by
    rw [rowsTo, List.getElem?_set_ne (by omega)]
    exact rowsTo_old i R j q (by omega)
theorem rowsTo_new (i : Nat) (R : List (List V)) : ∀ j q r, q < j → R[q]? = some r → (rowsTo i j R)[q]? = some (markTo (i * 1000 + q * 3) r.length r)
  | 0, q, _, h, _ => by omega
  | j + 1, q, r, h, hr => by
    rw [rowsTo]
    have hq := (List.getElem?_eq_some_iff.1 hr).1
    by_cases hj : q = j
    · subst hj
      rw [List.getElem?_set_self (by rw [rowsTo_len]; exact hq), hr]
      rfl
    · rw [List.getElem?_set_ne (Ne.symm hj)]
      exact rowsTo_new i R j q r (by omega) hr
def lstTo : Nat → List (List V) → List (List (List V))
  | 0, R => [R, R, R, R]
  | i + 1, R => (lstTo i R).set i (rowsTo i R.length R)
theorem lstTo_len (R : List (List V)) : ∀ i, (lstTo i R).length = 4
  | 0 => rfl
  | i + 1 => by rw [lstTo, List.length_set, lstTo_len R i]
theorem lstTo_old (R : List (List V)) : ∀ i q, i ≤ q → q < 4 → (lstTo i R)[q]? = some R
  | 0, 0, _, _ => rfl
  | 0, 1, _, _ => rfl
  | 0, 2, _, _ => rfl
  | 0, 3, _, _ => rfl
  | 0, q + 4, _, h => by omega
  | i + 1, q, h, h4 => by
    rw [lstTo, List.getElem?_set_ne (by omega)]
    exact lstTo_old R i q (by omega) h4
theorem lstTo_new (R : List (List V)) : ∀ i q, q < i → q < 4 → (lstTo i R)[q]? = some (rowsTo q R.length R)
  | 0, q, h, _ => by omega
  | i + 1, q, h, h4 => by
    rw [lstTo]
    by_cases hj : q = i
    · subst hj
      rw [List.getElem?_set_self (by rw [lstTo_len]; exact h4)]
    · rw [List.getElem?_set_ne (Ne.symm hj)]
      exact lstTo_new R i q (by omega) h4
theorem set_idem {α : Type} : ∀ {l : List α} {i : Nat} {a : α}, l[i]? = some a → l.set i a = l
  | [], _, _, h => by simp at h
  | x :: l, 0, a, h => by
    obtain rfl : x = a := by simpa using h
    rfl
  | x :: l, i + 1, a, h => by rw [List.set_cons_succ, set_idem (l := l) (by simpa using h)]
/-- rows that may be written over, each in blocks with one mark -/
def KW (w : World) (P : Nat → Prop) (lab : LabT) (A : Option Addr) (n c : Nat) : Prop :=
  ∃ cells, OwnH w (Zs P lab) 30 1 n (.slice A n c) cells ∧ ∀ v ∈ cells, ∃ A9 n9 c9 xs, v = .slice A9 n9 c9 ∧ n9 ≤ 1048576 ∧ OwnH w (fun g => P g ∧ lab g = some (4, 0)) 43 3 n9 v xs
section
variable {w w' : World} {P Q C : Nat → Prop} {lab lab' : LabT} {A : Option Addr} {n c : Nat}
theorem KW.chg (h : KW w P lab A n c) (hw : Chg C w w') (hC : ∀ g, P g → C g → lab g ≠ none ∧ lab g ≠ some (4, 0)) (hq : ∀ g, P g → Q g ∧ lab' g = lab g) : KW w' Q lab' A n c := by
  obtain ⟨cells, h2, h3⟩ := h
  refine ⟨cells, (h2.chg hw fun g hg hc => (hC g hg.1 hc).1 hg.2).mono fun g hg => ⟨(hq g hg.1).1, (hq g hg.1).2.trans hg.2⟩, fun v hv => ?_⟩
  obtain ⟨A9, n9, c9, xs, k1, k2, k3⟩ := h3 v hv
  exact ⟨A9, n9, c9, xs, k1, k2, (k3.chg hw fun g hg hc => (hC g hg.1 hc).2 hg.2).mono fun g hg => ⟨(hq g hg.1).1, (hq g hg.1).2.trans hg.2⟩⟩
theorem KW.row (h : KW w P lab A n c) {j : Nat} (hj : j < n) : ∃ lb A9 n9 c9, A = some ⟨lb, 0, none⟩ ∧ w.cell? ⟨lb, j, none⟩ = some (.slice A9 n9 c9) ∧ n9 ≤ 1048576 := by
  obtain ⟨cells, h2, h3⟩ := h
  have hl : cells.length = n := by have := h2.own.1; omega
  obtain ⟨lb, e, hlb, -, hc, -⟩ := h2.at_ (by omega)
  obtain ⟨A9, n9, c9, xs, k1, k2, k3⟩ := h3 cells[j] (List.getElem_mem _)
  exact ⟨lb, A9, n9, c9, e, hc j _ (by rw [List.getElem?_eq_getElem (by omega), k1]), k2⟩
theorem KW.write {lb : Nat} (h : KW w P lab (some ⟨lb, 0, none⟩) n c) {j k n9 c9 : Nat} {A9 : Option Addr} (hj : j < n) (hc : w.cell? ⟨lb, j, none⟩ = some (.slice A9 n9 c9)) (hk : k < n9) :
    ∃ rb u0 u1 u2, A9 = some ⟨rb, 0, none⟩ ∧ w.cell? ⟨rb, k * 3, none⟩ = some u0 ∧ w.cell? ⟨rb, k * 3 + 1, none⟩ = some u1 ∧ w.cell? ⟨rb, k * 3 + 2, none⟩ = some u2 ∧
      w.frozen? ⟨rb, k * 3, none⟩ = false ∧ w.frozen? ⟨rb, k * 3 + 1, none⟩ = false ∧ w.frozen? ⟨rb, k * 3 + 2, none⟩ = false ∧ P rb ∧ lab rb = some (4, 0) ∧ lb ≠ rb ∧
      ∀ v0 v1 v2, KW (((w.setCell ⟨rb, k * 3, none⟩ v0).setCell ⟨rb, k * 3 + 1, none⟩ v1).setCell ⟨rb, k * 3 + 2, none⟩ v2) P lab (some ⟨lb, 0, none⟩) n c := by
  obtain ⟨cells, h2, h3⟩ := h
  have hl : cells.length = n := by have := h2.own.1; omega
  obtain ⟨lb', e, hlb, -, hcl, -⟩ := h2.at_ (by omega)
  injection e with e; injection e with e
  subst e
  have hcc := hcl j _ (List.getElem?_eq_getElem (by omega))
  obtain ⟨A8, n8, c8, xs, k1, k2, k3⟩ := h3 cells[j] (List.getElem_mem _)
  rw [k1] at hcc k3
  rw [hcc] at hc
  injection hc with hc
  injection hc with e1 e2 e3
  subst e1; subst e2; subst e3
  obtain ⟨rb, rfl, hb, -, hcr, hf⟩ := k3.at_ (by omega)
  have hxl := k3.own.1
  refine ⟨rb, _, _, _, rfl, hcr (k * 3) _ (List.getElem?_eq_getElem (by omega)), hcr (k * 3 + 1) _ (List.getElem?_eq_getElem (by omega)), hcr (k * 3 + 2) _ (List.getElem?_eq_getElem (by omega)), hf _, hf _, hf _, hb.1, hb.2, fun e => (by have h9 := hb.2; rw [← e, hlb.2] at h9; cases h9), fun v0 v1 v2 => ?_⟩
  have hch := (((Chg.refl (fun g => g = rb) w).setCell (p := ⟨rb, k * 3, none⟩) (.inl rfl) v0).setCell (p := ⟨rb, k * 3 + 1, none⟩) (.inl rfl) v1).setCell (p := ⟨rb, k * 3 + 2, none⟩) (.inl rfl) v2
  refine ⟨cells, h2.chg hch fun g hg e => ?_, fun v hv => ?_⟩
  · subst e
    have h9 := hg.2
    rw [hb.2] at h9
    cases h9
  · obtain ⟨A7, n7, c7, ys, q1, q2, q3⟩ := h3 v hv
    obtain ⟨y1, o1⟩ := q3.any rb (k * 3) v0
    obtain ⟨y2, o2⟩ := o1.any rb (k * 3 + 1) v1
    obtain ⟨y3, o3⟩ := o2.any rb (k * 3 + 2) v2
    exact ⟨A7, n7, c7, y3, q1, q2, o3⟩
/-- a grouping's keys, to be written over -/
theorem KW.of {M : Nat} {rows : List (List V)} (h : MineV M w A n c rows) (lab : LabT) (hP : ∀ g, P g → g < M) (hl : ∀ g, w.heap.size ≤ g → lab g = none) (hs : ∀ r ∈ rows, r.length ≤ 1048576) :
    ∃ lab', (∀ g, g < M → lab' g = lab g) ∧ (∀ g, w.heap.size ≤ g → lab' g = none) ∧ KW w (And' P M w.heap.size) lab' A n c := by
  obtain ⟨cells, h1, h2, h3⟩ := h
  have hcl : cells.length = rows.length := by have := h2.1; omega
  have hel : ∀ v ∈ cells, ∃ A9 n9 c9 xs, v = .slice A9 n9 c9 ∧ n9 ≤ 1048576 ∧ w.ownsRow M 43 3 v n9 xs := fun v hv => by
    obtain ⟨j, hj, rfl⟩ := List.getElem_of_mem hv
    have hr : rows[j]? = some rows[j] := List.getElem?_eq_getElem (by omega)
    obtain ⟨cs, k1, -, ⟨A9, n9, c9, rfl, k2⟩, k3⟩ := h3.get hr
    have k4 := k3 0 (by omega)
    have hat := RowAt.own k2
    have hn := hat.len
    have k5 : cells[j]? = some (.slice A9 n9 c9) := by simpa using k4
    rw [List.getElem?_eq_getElem hj] at k5
    rw [Option.some.inj k5]
    exact ⟨A9, n9, c9, _, rfl, by rw [hn]; exact hs _ (List.getElem_mem _), k2⟩
  refine ⟨fun g => if g < M then lab g else if w.heap.size ≤ g ∨ (Value.slice A n c).ownBlock = some g then none else some (4, 0), fun g hg => if_pos hg, fun g hg => ?_, cells, ⟨own_base0 h2 (Nat.zero_le _), fun g hg => ?_⟩, fun v hv => ?_⟩
  · by_cases hgM : g < M
    · simp only [if_pos hgM]; exact hl g hg
    · simp only [if_neg hgM]; exact if_pos (.inl hg)
  · have hlt := h2.lt g hg
    refine ⟨.inr hlt, ?_⟩
    simp only [if_neg (show ¬ g < M by omega)]
    exact if_pos (.inr hg)
  · obtain ⟨A9, n9, c9, xs, rfl, k1, k2⟩ := hel v hv
    refine ⟨A9, n9, c9, xs, rfl, k1, own_base0 k2 (Nat.zero_le _), fun g hg => ?_⟩
    have hlt := k2.lt g hg
    refine ⟨.inr hlt, ?_⟩
    simp only [if_neg (show ¬ g < M by omega)]
    exact if_neg (fun h => h.elim (fun h => by omega) fun h => own_types h2 k2 (by decide) hg h)
end
theorem Told.zs {w w' : World} {P Q : Nat → Prop} {lab lab' : LabT} {A : Option Addr} {n c : Nat} {rows : List (List V)} (h : Told w (Zs P lab) A n c rows) (hw : Keeps (Zs P lab) w w') (hq : ∀ g, P g → Q g ∧ lab' g = lab g) : Told w' (Zs Q lab') A n c rows :=
  h.keep hw fun g hg => ⟨(hq g hg.1).1, (hq g hg.1).2.trans hg.2⟩
/-- what the law holds, while the store turns -/
structure MemI (w0 w : World) (x : Nat) (S : SAbs) (N : Nat) (P : Nat → Prop) (lab : LabT) (ab : Nat) (L : List (List (List V))) (Aw : Option Addr) (nw cw : Nat) : Prop where
  fp : FP w0 w x S N P
  was : Told w (Zs P lab) Aw nw cw S.rows
  q : Qd w P lab ab L
  lab : ∀ g, w.heap.size ≤ g → lab g = none
  new : ∀ b, P b → w0.heap.size ≤ b
section
variable {w0 w w' : World} {x : Nat} {S : SAbs} {N N' : Nat} {P Q : Nat → Prop} {lab lab' : LabT} {ab : Nat} {L : List (List (List V))} {Aw : Option Addr} {nw cw : Nat}
theorem MemI.step (h : MemI w0 w x S N P lab ab L Aw nw cw) (hf : FP w0 w' x S N' Q) (hk : Keeps P w w') (hq : ∀ g, P g → Q g ∧ lab' g = lab g) (hn : ∀ g, w'.heap.size ≤ g → lab' g = none) (h0 : ∀ b, Q b → w0.heap.size ≤ b) : MemI w0 w' x S N' Q lab' ab L Aw nw cw :=
  ⟨hf, h.was.zs (hk.mono fun g hg _ hz => hg hz.1) hq, h.q.keep hk hq, hn, h0⟩
theorem MemI.lt (h : MemI w0 w x S N P lab ab L Aw nw cw) : ∀ g, P g → g < w.heap.size := by
  obtain ⟨B, h1, h2, h3, h4⟩ := h.fp
  exact h4
theorem MemI.ext (h : MemI w0 w x S N P lab ab L Aw nw cw) (hw : Ext w w') : MemI w0 w' x S N (And' P w.heap.size w'.heap.size) lab ab L Aw nw cw :=
  h.step (h.fp.ext hw) (Chg.of hw) (fun g hg => ⟨.inl hg, rfl⟩) (fun g hg => h.lab g (Nat.le_trans hw.size hg)) fun b hb => hb.elim (h.new b) fun h1 => by have := h.fp.size0; omega
/-- a list told is put into the array -/
theorem MemI.put (h : MemI w0 w x S N P lab ab L Aw nw cw) {i M : Nat} (hi : i < 4) {A : Option Addr} {n c : Nat} {rows : List (List V)} (hm : MineA M w' A n c rows) (hf : FP w0 w' x S N' (And' P M w'.heap.size)) (hk : Keeps P w w') (hM : w.heap.size ≤ M) :
    ∃ lab', MemI w0 (w'.setCell ⟨ab, i, none⟩ (.slice A n c)) x S N' (And' (And' P M w'.heap.size) w'.heap.size w'.heap.size) lab' ab (L.set i rows) Aw nw cw := by
  have hsz := hk.size
  obtain ⟨lab', h1, h2, h3⟩ := LstO.of (P := P) hm i lab (fun g hg => by have := h.lt g hg; omega) (fun g hg => h.lab g (by omega))
  have hI := h.step (lab' := lab') hf hk (fun g hg => ⟨.inl hg, h1 g (by have := h.lt g hg; omega)⟩) h2 fun b hb => hb.elim (h.new b) fun h9 => by have := h.fp.size0; omega
  have hch := (Chg.refl (fun g => g = ab) w').setCell (p := ⟨ab, i, none⟩) (.inl rfl) (.slice A n c)
  have hfc := hI.fp.chgP hch (fun b hb => by rw [hb]; exact hI.q.ab.1) (fun b hb => by rw [hb]; exact hI.new _ hI.q.ab.1)
  have hss : (w'.setCell ⟨ab, i, none⟩ (.slice A n c)).heap.size = w'.heap.size := by simp
  rw [hss] at hfc
  refine ⟨lab', hfc, hI.was.zs (hch.mono fun g hg _ hz => ?_) fun g hg => ⟨.inl hg, rfl⟩, ?_, fun g hg => h2 g (by rw [hss] at hg; exact hg), fun b hb => hb.elim (hI.new b) fun h9 => by omega⟩
  · subst hg
    have h9 := hz.2
    rw [hI.q.ab.2] at h9
    cases h9
  · exact (hI.q.put hi h3.1 h3).keep (Chg.refl _ _) fun g hg => ⟨.inl hg, rfl⟩
end
theorem Qd.row {w : World} {P : Nat → Prop} {lab : LabT} {ab : Nat} {L : List (List (List V))} (h : Qd w P lab ab L) {i j : Nat} {rows : List (List V)} {r : List V} (hi : L[i]? = some rows) (hj : rows[j]? = some r) :
    ∃ lb c Ar cr, w.cell? ⟨ab, i, none⟩ = some (.slice (some ⟨lb, 0, none⟩) rows.length c) ∧ w.cell? ⟨lb, j, none⟩ = some (.slice Ar r.length cr) ∧ RowAt w Ar r.length r := by
  obtain ⟨A, c, h1, h2, cells, h3, h4⟩ := h.get hi
  have hjl := (List.getElem?_eq_some_iff.1 hj).1
  obtain ⟨lb, rfl, -, -, hc, -⟩ := h3.at_ (by omega)
  obtain ⟨Ar, cr, k1, k2⟩ := h4 j r hj
  exact ⟨lb, c, Ar, cr, h1, hc j _ k1, RowAt.own k2.own⟩
def iniTo : Nat → List (List V) → List (List (List V))
  | 0, _ => [[], [], [], []]
  | i + 1, R => (iniTo i R).set i R
theorem iniTo_len (R : List (List V)) : ∀ i, (iniTo i R).length = 4
  | 0 => rfl
  | i + 1 => by rw [iniTo, List.length_set, iniTo_len R i]
theorem iniTo_four (R : List (List V)) : iniTo 4 R = lstTo 0 R := rfl
theorem nums_two (w : World) : NumsAt (((w.alloc (.cells #[.int .i64 1] 3)).alloc (.cells #[] 3)).alloc (.cells #[.slice (some ⟨w.heap.size, 0, none⟩) 1 1, .slice (some ⟨w.heap.size + 1, 0, none⟩) 0 0] 27)) (some ⟨w.heap.size + 1 + 1, 0, none⟩) 2 [[1], []] := by
  have e1 := Ext.alloc w (.cells #[.int .i64 1] 3)
  have e2 := e1.alloc' (.cells #[] 3)
  have b3 := (Blk.new ((w.alloc (.cells #[.int .i64 1] 3)).alloc (.cells #[] 3)) 27 #[.slice (some ⟨w.heap.size, 0, none⟩) 1 1, .slice (some ⟨w.heap.size + 1, 0, none⟩) 0 0]).sl (n := 2) (size := 1) rfl
  rw [World.size_alloc, World.size_alloc] at b3
  have n1 : NumAt w (none) 0 [] := ⟨rfl, Sl.nil _ _ _⟩
  have b1 := (Blk.new w 3 #[.int .i64 1]).sl (n := 1) (size := 1) rfl
  have n2 : NumAt (w.alloc (.cells #[.int .i64 1] 3)) (some ⟨w.heap.size, 0, none⟩) 1 [1] := ⟨rfl, b1⟩
  refine ⟨rfl, _, b3, fun k q hq => ?_⟩
  cases k with
  | zero =>
    obtain rfl : [1] = q := by simpa using hq
    exact ⟨_, 1, rfl, n2.ext ((Ext.alloc _ _).alloc' _)⟩
  | succ k =>
    cases k with
    | zero =>
      obtain rfl : [] = q := by simpa using hq
      exact ⟨_, 0, rfl, rfl, Sl.nil _ _ _⟩
    | succ k => simp at hq
theorem grp_all {S : SAbs} {k : Nat} (hk : S.gs[k]? = some []) : grpS S k [] = S.rows := by
  unfold grpS
  rw [hk]
  refine List.filter_eq_self.2 fun r _ => sameR_iff.2 ?_
  rfl
theorem Qd.cell {w : World} {P : Nat → Prop} {lab : LabT} {ab : Nat} {L : List (List (List V))} (h : Qd w P lab ab L) {i : Nat} (hi : i < 4) : ∃ v, w.cell? ⟨ab, i, none⟩ = some v := by
  obtain ⟨vs, h1, h2, h3⟩ := h.ex
  exact ⟨vs[i]'(by omega), by rw [h1.cell]; exact Array.getElem?_eq_getElem (by omega)⟩
theorem iniTo_at (R : List (List V)) : ∀ i, i < 4 → (iniTo (i + 1) R)[i]? = some R := fun i hi => by
  rw [iniTo, List.getElem?_set_self (by rw [iniTo_len]; exact hi)]
theorem mem_start {w0 w w1 w5 w6 : World} {x : Nat} {S : SAbs} {N N' M : Nat} {A : Option Addr} {n c : Nat} (h : FP w0 w x S N (fun _ => False)) (E4 : Ext w w1) (AB : Blk w1 w.heap.size 34 #[.slice none 0 0, .slice none 0 0, .slice none 0 0, .slice none 0 0])
    (f5 : FP w0 w5 x S N' (And' (And' (fun _ => False) w.heap.size w1.heap.size) M w5.heap.size)) (k5 : Keeps (And' (fun _ => False) w.heap.size w1.heap.size) w1 w5) (hM : w1.heap.size ≤ M) (x6 : Ext w5 w6) (q6 : ∀ P : Nat → Prop, (∀ b, w5.heap.size ≤ b → b < w6.heap.size → P b) → Told w6 P A n c S.rows) :
    ∃ P lab, MemI w0 w6 x S N' P lab w.heap.size (iniTo 0 S.rows) A n c := by
  have h0 := h.size0; have h1 := AB.lt; have h2 := E4.size; have h3 := k5.size; have h4 := x6.size
  have hab : And' (fun _ => False) w.heap.size w1.heap.size w.heap.size := .inr ⟨Nat.le_refl _, h1⟩
  refine ⟨_, fun g => if g = w.heap.size then some (9, 9) else none, f5.ext x6, q6 _ fun b h8 h9 => ⟨.inr ⟨h8, h9⟩, if_neg (by omega)⟩, ⟨⟨_, (k5.blk AB fun hn => hn hab).ext x6, rfl, fun i rows hi => ?_⟩, ⟨.inl (.inl hab), if_pos rfl⟩, rfl⟩, fun g hg => if_neg (by omega), fun b hb => ?_⟩
  · have hi4 := (List.getElem?_eq_some_iff.1 hi).1
    have hi5 : i < 4 := hi4
    have hr : rows = [] := by
      rcases i with _ | _ | _ | _ | i
      · simpa [iniTo] using hi.symm
      · simpa [iniTo] using hi.symm
      · simpa [iniTo] using hi.symm
      · simpa [iniTo] using hi.symm
      · omega
    subst hr
    refine ⟨none, 0, ?_, LstO.nil⟩
    rcases i with _ | _ | _ | _ | i
    · rfl
    · rfl
    · rfl
    · rfl
    · omega
  · rcases hb with ((hb | hb) | hb) | hb
    · exact hb.elim
    · omega
    · omega
    · omega
theorem arg_none (w : World) : ArgR w none 0 [] := ⟨RowAt.nil _ _, by simp, by simp [smallR], by simp [wfR]⟩
/-- a list of the four is as the law copied it -/
theorem MemI.sameAt {w0 w : World} {x : Nat} {S : SAbs} {N : Nat} {P : Nat → Prop} {lab : LabT} {ab : Nat} {L : List (List (List V))} {Aw : Option Addr} {nw cw : Nat} (h : MemI w0 w x S N P lab ab L Aw nw cw) {i : Nat} (hi : L[i]? = some S.rows) (hl : S.rows.length ≤ 50) (hs : ∀ r ∈ S.rows, r.length ≤ 30) :
    ∃ A c, w.cell? ⟨ab, i, none⟩ = some (.slice A S.rows.length c) ∧ Calls Tryz.prog 14 #[.slice A S.rows.length c, .slice Aw nw cw] w (fun e w' => e = .returned (.bool true) ∧ Ext w w') := by
  obtain ⟨A, c, h1, h2⟩ := h.q.get hi
  refine ⟨A, c, h1, ?_⟩
  have h3 := same_all S.rows S.rows A Aw S.rows.length nw c cw w h2.lat h.was.lat (by omega) (fun s hs2 => by have := hs s hs2; omega)
  rw [sameRs_iff.2 rfl] at h3
  exact h3
/-- what the law holds, while it writes -/
structure MemJ (w0 w : World) (x : Nat) (S : SAbs) (N : Nat) (P : Nat → Prop) (lab : LabT) (ab : Nat) (L : List (List (List V))) (Aw : Option Addr) (nw cw : Nat) (K : List (List V)) (A0 : Option Addr) (c0 : Nat) (A1 : Option Addr) (c1 : Nat) (A2 : Option Addr) (c2 : Nat) : Prop where
  m : MemI w0 w x S N P lab ab L Aw nw cw
  kw : KW w P lab A0 K.length c0
  k1 : Told w (Zs P lab) A1 K.length c1 K
  k2 : Told w (Zs P lab) A2 K.length c2 K
section
variable {w0 w w' w7 w8 w9 : World} {x : Nat} {S : SAbs} {N : Nat} {P : Nat → Prop} {lab : LabT} {ab : Nat} {L L' : List (List (List V))} {Aw : Option Addr} {nw cw : Nat} {K : List (List V)} {A0 A1 A2 : Option Addr} {c0 c1 c2 : Nat}
theorem MemJ.start (h : MemI w0 w x S N P lab ab L Aw nw cw) (hm7 : MineV w.heap.size w7 A0 K.length c0 K) (x7 : Ext w w7) (hKs : ∀ r ∈ K, r.length ≤ 1048576) (x8 : Ext w7 w8) (q8 : ∀ P : Nat → Prop, (∀ b, w7.heap.size ≤ b → b < w8.heap.size → P b) → Told w8 P A1 K.length c1 K) (hm9 : MineV w8.heap.size w9 A2 K.length c2 K) (x9 : Ext w8 w9) :
    ∃ P lab, MemJ w0 w9 x S N P lab ab L Aw nw cw K A0 c0 A1 c1 A2 c2 := by
  obtain ⟨lab7, l1, l2, l3⟩ := KW.of (P := P) hm7 lab h.lt (fun g hg => h.lab g (Nat.le_trans x7.size hg)) hKs
  have h7 : MemI w0 w7 x S N (And' P w.heap.size w7.heap.size) lab7 ab L Aw nw cw := h.step (h.fp.ext x7) (Chg.of x7) (fun g hg => ⟨.inl hg, l1 g (h.lt g hg)⟩) l2 fun b hb => hb.elim (h.new b) fun h9 => by have := h.fp.size0; omega
  have h8 := h7.ext x8
  have h9 := h8.ext x9
  exact ⟨_, lab7, h9, (l3.chg (C := fun _ => False) (Chg.of x8) (fun g _ hc => hc.elim) fun g hg => ⟨.inl hg, rfl⟩).chg (C := fun _ => False) (Chg.of x9) (fun g _ hc => hc.elim) fun g hg => ⟨.inl hg, rfl⟩,
    (q8 (Zs (And' (And' P w.heap.size w7.heap.size) w7.heap.size w8.heap.size) lab7) fun b h1 h2 => ⟨.inr ⟨h1, h2⟩, h7.lab b h1⟩).zs (Chg.of x9) fun g hg => ⟨.inl hg, rfl⟩, hm9.told fun b h1 h2 => ⟨.inr ⟨h1, h2⟩, h8.lab b h1⟩⟩
theorem MemJ.ext (h : MemJ w0 w x S N P lab ab L Aw nw cw K A0 c0 A1 c1 A2 c2) (hw : Ext w w') : MemJ w0 w' x S N (And' P w.heap.size w'.heap.size) lab ab L Aw nw cw K A0 c0 A1 c1 A2 c2 :=
  ⟨h.m.ext hw, h.kw.chg (C := fun _ => False) (Chg.of hw) (fun g _ hc => hc.elim) fun g hg => ⟨.inl hg, rfl⟩, h.k1.zs (Chg.of hw) fun g hg => ⟨.inl hg, rfl⟩, h.k2.zs (Chg.of hw) fun g hg => ⟨.inl hg, rfl⟩⟩
theorem MemJ.turn (h : MemJ w0 w x S N P lab ab L Aw nw cw K A0 c0 A1 c1 A2 c2) {rb : Nat} (hch : Chg (fun g => g = rb) w w') (hsz : w'.heap.size = w.heap.size) (hp : P rb) (hlab : lab rb ≠ none) (hq : Qd w' P lab ab L') (hkw : KW w' P lab A0 K.length c0) :
    MemJ w0 w' x S N (And' P w.heap.size w.heap.size) lab ab L' Aw nw cw K A0 c0 A1 c1 A2 c2 := by
  have hf := h.m.fp.chgP hch (fun b hb => by rw [hb]; exact hp) (fun b hb => by rw [hb]; exact h.m.new _ hp)
  rw [hsz] at hf
  have hz : Keeps (Zs P lab) w w' := hch.mono fun g hg _ hz => by
    subst hg
    exact hlab hz.2
  refine ⟨⟨hf, h.m.was.zs hz fun g hg => ⟨.inl hg, rfl⟩, hq.keep (Chg.refl _ _) fun g hg => ⟨.inl hg, rfl⟩, fun g hg => h.m.lab g (by omega), fun b hb => hb.elim (h.m.new b) fun h9 => by omega⟩, hkw.chg (C := fun _ => False) (Chg.refl _ _) (fun g _ hc => hc.elim) fun g hg => ⟨.inl hg, rfl⟩, h.k1.zs hz fun g hg => ⟨.inl hg, rfl⟩, h.k2.zs hz fun g hg => ⟨.inl hg, rfl⟩⟩
theorem MemJ.write (h : MemJ w0 w x S N P lab ab L Aw nw cw K A0 c0 A1 c1 A2 c2) {i j k : Nat} {rows : List (List V)} {r : List V} (hi : L[i]? = some rows) (hj : rows[j]? = some r) (hk : k < r.length) :
    ∃ lb c rb cr u0 u1 u2, w.cell? ⟨ab, i, none⟩ = some (.slice (some ⟨lb, 0, none⟩) rows.length c) ∧ w.cell? ⟨lb, j, none⟩ = some (.slice (some ⟨rb, 0, none⟩) r.length cr) ∧ w.cell? ⟨rb, k * 3, none⟩ = some u0 ∧ w.cell? ⟨rb, k * 3 + 1, none⟩ = some u1 ∧ w.cell? ⟨rb, k * 3 + 2, none⟩ = some u2 ∧
      w.frozen? ⟨rb, k * 3, none⟩ = false ∧ w.frozen? ⟨rb, k * 3 + 1, none⟩ = false ∧ w.frozen? ⟨rb, k * 3 + 2, none⟩ = false ∧ (ab ≠ rb ∧ lb ≠ rb) ∧
      ∀ m : V, MemJ w0 (((w.setCell ⟨rb, k * 3, none⟩ (.int .i64 m.k)).setCell ⟨rb, k * 3 + 1, none⟩ (.int .i64 m.i)).setCell ⟨rb, k * 3 + 2, none⟩ (.string m.t)) x S N (And' P w.heap.size w.heap.size) lab ab (L.set i (rows.set j (r.set k m))) Aw nw cw K A0 c0 A1 c1 A2 c2 := by
  have hi4 : i < 4 := by have := (List.getElem?_eq_some_iff.1 hi).1; have := h.m.q.len; omega
  obtain ⟨lb, c, rb, cr, u0, u1, u2, h1, h2, q1, q2, q3, f1, f2, f3, hp, hlab, hne, hm⟩ := h.m.q.write hi hj hk
  refine ⟨lb, c, rb, cr, u0, u1, u2, h1, h2, q1, q2, q3, f1, f2, f3, hne, fun m => ?_⟩
  have hch := (((Chg.refl (fun g => g = rb) w).setCell (p := ⟨rb, k * 3, none⟩) (.inl rfl) (.int .i64 m.k)).setCell (p := ⟨rb, k * 3 + 1, none⟩) (.inl rfl) (.int .i64 m.i)).setCell (p := ⟨rb, k * 3 + 2, none⟩) (.inl rfl) (.string m.t)
  refine h.turn hch (by simp) hp (by rw [hlab]; simp) (hm m) (h.kw.chg hch (fun g _ e => ?_) fun g hg => ⟨hg, rfl⟩)
  subst e
  rw [hlab]
  exact ⟨by simp, fun e => by injection e with e; injection e with e _; omega⟩
theorem Qd.chgK (h : Qd w P lab ab L) {rb : Nat} (hch : Chg (fun g => g = rb) w w') (hlab : lab rb = some (4, 0)) : Qd w' P lab ab L := by
  obtain ⟨vs, h1, h2, h3⟩ := h.ex
  have hab : ab ≠ rb := fun e => by
    have h9 := h.ab.2
    rw [e, hlab] at h9
    injection h9 with h9; injection h9 with h9 _
    omega
  refine ⟨⟨vs, hch.blk h1 hab, h2, fun i rows hi => ?_⟩, h.ab, h.len⟩
  have hi4 : i < 4 := by have := (List.getElem?_eq_some_iff.1 hi).1; have := h.len; omega
  obtain ⟨A, c, h4, h5⟩ := h3 i rows hi
  exact ⟨A, c, h4, h5.chg hch fun g _ e => by
    subst e
    rw [hlab]
    exact ⟨by simp, fun j e => by injection e with e; injection e with e _; omega⟩⟩
theorem MemJ.writeK {lb : Nat} (h : MemJ w0 w x S N P lab ab L Aw nw cw K (some ⟨lb, 0, none⟩) c0 A1 c1 A2 c2) {j k n9 c9 : Nat} {A9 : Option Addr} (hj : j < K.length) (hc : w.cell? ⟨lb, j, none⟩ = some (.slice A9 n9 c9)) (hk : k < n9) :
    ∃ rb u0 u1 u2, A9 = some ⟨rb, 0, none⟩ ∧ w.cell? ⟨rb, k * 3, none⟩ = some u0 ∧ w.cell? ⟨rb, k * 3 + 1, none⟩ = some u1 ∧ w.cell? ⟨rb, k * 3 + 2, none⟩ = some u2 ∧
      w.frozen? ⟨rb, k * 3, none⟩ = false ∧ w.frozen? ⟨rb, k * 3 + 1, none⟩ = false ∧ w.frozen? ⟨rb, k * 3 + 2, none⟩ = false ∧ lb ≠ rb ∧
      ∀ v0 v1 v2, MemJ w0 (((w.setCell ⟨rb, k * 3, none⟩ v0).setCell ⟨rb, k * 3 + 1, none⟩ v1).setCell ⟨rb, k * 3 + 2, none⟩ v2) x S N (And' P w.heap.size w.heap.size) lab ab L Aw nw cw K (some ⟨lb, 0, none⟩) c0 A1 c1 A2 c2 := by
  obtain ⟨rb, u0, u1, u2, rfl, q0, q1, q2, f0, f1, f2, hp, hlab, hne, hw⟩ := h.kw.write hj hc hk
  refine ⟨rb, u0, u1, u2, rfl, q0, q1, q2, f0, f1, f2, hne, fun v0 v1 v2 => ?_⟩
  have hch := (((Chg.refl (fun g => g = rb) w).setCell (p := ⟨rb, k * 3, none⟩) (.inl rfl) v0).setCell (p := ⟨rb, k * 3 + 1, none⟩) (.inl rfl) v1).setCell (p := ⟨rb, k * 3 + 2, none⟩) (.inl rfl) v2
  exact h.turn hch (by simp) hp (by rw [hlab]; simp) (h.m.q.chgK hch hlab) (hw v0 v1 v2)
end
section
variable {w0 w : World} {x : Nat} {S : SAbs} {N : Nat} {P : Nat → Prop} {lab : LabT} {ab : Nat} {L : List (List (List V))} {Aw : Option Addr} {nw cw : Nat} {K : List (List V)} {A0 A1 A2 : Option Addr} {c0 c1 c2 : Nat}
theorem set3_cell {w : World} {rb k : Nat} {v0 v1 v2 : Value} {b j : Nat} {u : Value} (h : w.cell? ⟨b, j, none⟩ = some u) (hb : b ≠ rb) : (((w.setCell ⟨rb, k * 3, none⟩ v0).setCell ⟨rb, k * 3 + 1, none⟩ v1).setCell ⟨rb, k * 3 + 2, none⟩ v2).cell? ⟨b, j, none⟩ = some u :=
  ((((Chg.refl (fun g => g = rb) w).setCell (p := ⟨rb, k * 3, none⟩) (.inl rfl) v0).setCell (p := ⟨rb, k * 3 + 1, none⟩) (.inl rfl) v1).setCell (p := ⟨rb, k * 3 + 2, none⟩) (.inl rfl) v2).cell h hb
theorem MemJ.writeE (h : MemJ w0 w x S N P lab ab L Aw nw cw K A0 c0 A1 c1 A2 c2) {i j k : Nat} {rows : List (List V)} {r : List V} (hi : L[i]? = some rows) (hj : rows[j]? = some r) (hk : k < r.length) :
    ∃ lb c rb cr, w.cell? ⟨ab, i, none⟩ = some (.slice (some ⟨lb, 0, none⟩) rows.length c) ∧ w.cell? ⟨lb, j, none⟩ = some (.slice (some ⟨rb, 0, none⟩) r.length cr) ∧ (ab ≠ rb ∧ lb ≠ rb) ∧
      ∀ w', Ext w w' → (∃ u0 u1 u2, w'.cell? ⟨rb, k * 3, none⟩ = some u0 ∧ w'.cell? ⟨rb, k * 3 + 1, none⟩ = some u1 ∧ w'.cell? ⟨rb, k * 3 + 2, none⟩ = some u2) ∧
      w'.frozen? ⟨rb, k * 3, none⟩ = false ∧ w'.frozen? ⟨rb, k * 3 + 1, none⟩ = false ∧ w'.frozen? ⟨rb, k * 3 + 2, none⟩ = false ∧
      ∀ m : V, ∃ P', MemJ w0 (((w'.setCell ⟨rb, k * 3, none⟩ (.int .i64 m.k)).setCell ⟨rb, k * 3 + 1, none⟩ (.int .i64 m.i)).setCell ⟨rb, k * 3 + 2, none⟩ (.string m.t)) x S N P' lab ab (L.set i (rows.set j (r.set k m))) Aw nw cw K A0 c0 A1 c1 A2 c2 := by
  obtain ⟨lb, c, rb, cr, u0, u1, u2, h1, h2, -, -, -, -, -, -, hne, -⟩ := h.write hi hj hk
  refine ⟨lb, c, rb, cr, h1, h2, hne, fun w' hw => ?_⟩
  obtain ⟨lb', c', rb', cr', u0, u1, u2, h1', h2', q0, q1, q2, f0, f1, f2, -, hm⟩ := (h.ext hw).write hi hj hk
  have e1 := (hw.cell h1).symm.trans h1'
  injection e1 with e1; injection e1 with e1; injection e1 with e1; injection e1 with e1
  subst e1
  have e2 := (hw.cell h2).symm.trans h2'
  injection e2 with e2; injection e2 with e2; injection e2 with e2; injection e2 with e2
  subst e2
  exact ⟨⟨u0, u1, u2, q0, q1, q2⟩, f0, f1, f2, fun m => ⟨_, hm m⟩⟩
theorem MemJ.writeKE {lb : Nat} (h : MemJ w0 w x S N P lab ab L Aw nw cw K (some ⟨lb, 0, none⟩) c0 A1 c1 A2 c2) {j k n9 c9 : Nat} {A9 : Option Addr} (hj : j < K.length) (hc : w.cell? ⟨lb, j, none⟩ = some (.slice A9 n9 c9)) (hk : k < n9) :
    ∃ rb, A9 = some ⟨rb, 0, none⟩ ∧ lb ≠ rb ∧
      ∀ w', Ext w w' → (∃ u0 u1 u2, w'.cell? ⟨rb, k * 3, none⟩ = some u0 ∧ w'.cell? ⟨rb, k * 3 + 1, none⟩ = some u1 ∧ w'.cell? ⟨rb, k * 3 + 2, none⟩ = some u2) ∧
      w'.frozen? ⟨rb, k * 3, none⟩ = false ∧ w'.frozen? ⟨rb, k * 3 + 1, none⟩ = false ∧ w'.frozen? ⟨rb, k * 3 + 2, none⟩ = false ∧
      ∀ v0 v1 v2, ∃ P', MemJ w0 (((w'.setCell ⟨rb, k * 3, none⟩ v0).setCell ⟨rb, k * 3 + 1, none⟩ v1).setCell ⟨rb, k * 3 + 2, none⟩ v2) x S N P' lab ab L Aw nw cw K (some ⟨lb, 0, none⟩) c0 A1 c1 A2 c2 := by
  obtain ⟨rb, _, _, _, rfl, -, -, -, -, -, -, hne, -⟩ := h.writeK hj hc hk
  refine ⟨rb, rfl, hne, fun w' hw => ?_⟩
  obtain ⟨rb', u0, u1, u2, e, q0, q1, q2, f0, f1, f2, -, hm⟩ := (h.ext hw).writeK hj (hw.cell hc) hk
  injection e with e; injection e with e
  subst e
  exact ⟨⟨u0, u1, u2, q0, q1, q2⟩, f0, f1, f2, fun v0 v1 v2 => ⟨_, hm v0 v1 v2⟩⟩
end
theorem rowsTo_next (i : Nat) {R : List (List V)} {j : Nat} {r : List V} (hr : R[j]? = some r) : (rowsTo i j R).set j (markTo (i * 1000 + j * 3) r.length r) = rowsTo i (j + 1) R := by
  rw [rowsTo, hr]
  rfl
/-- what the law holds behind its writing -/
structure MemF (w0 w : World) (x : Nat) (S : SAbs) (N : Nat) (P : Nat → Prop) (Aw : Option Addr) (nw cw : Nat) (K : List (List V)) (A1 : Option Addr) (c1 : Nat) (A2 : Option Addr) (c2 : Nat) : Prop where
  fp : FP w0 w x S N P
  was : Told w P Aw nw cw S.rows
  k1 : Told w P A1 K.length c1 K
  k2 : Told w P A2 K.length c2 K
section
variable {w0 w w' : World} {x : Nat} {S : SAbs} {N N' : Nat} {P Q : Nat → Prop} {lab : LabT} {ab : Nat} {L : List (List (List V))} {Aw : Option Addr} {nw cw : Nat} {K : List (List V)} {A0 A1 A2 : Option Addr} {c0 c1 c2 : Nat}
theorem MemJ.fin (h : MemJ w0 w x S N P lab ab L Aw nw cw K A0 c0 A1 c1 A2 c2) : MemF w0 w x S N P Aw nw cw K A1 c1 A2 c2 :=
  ⟨h.m.fp, h.m.was.ext (Ext.refl _) fun g hg => hg.1, h.k1.ext (Ext.refl _) fun g hg => hg.1, h.k2.ext (Ext.refl _) fun g hg => hg.1⟩
theorem MemF.step (h : MemF w0 w x S N P Aw nw cw K A1 c1 A2 c2) (hf : FP w0 w' x S N' Q) (hk : Keeps P w w') (hq : ∀ g, P g → Q g) : MemF w0 w' x S N' Q Aw nw cw K A1 c1 A2 c2 :=
  ⟨hf, h.was.keep hk hq, h.k1.keep hk hq, h.k2.keep hk hq⟩
theorem MemF.ext (h : MemF w0 w x S N P Aw nw cw K A1 c1 A2 c2) (hw : Ext w w') : MemF w0 w' x S N (And' P w.heap.size w'.heap.size) Aw nw cw K A1 c1 A2 c2 :=
  h.step (h.fp.ext hw) (Chg.of hw) fun g hg => .inl hg
end
theorem num_one (w : World) : NumAt (w.alloc (.cells #[.int .i64 1] 3)) (some ⟨w.heap.size, 0, none⟩) 1 ([1].map Int.ofNat) :=
  ⟨rfl, (Blk.new w 3 #[.int .i64 1]).sl (n := 1) (size := 1) rfl⟩
theorem fits_len {width : Nat} {r : List V} (h : fitsR width r = true) : r.length = width := by
  unfold fitsR at h
  simp only [Bool.and_eq_true, decide_eq_true_eq] at h
  exact h.1
/-- the first of a row's group -/
theorem head_grp {S : SAbs} {k : Nat} {g : List Nat} (hg : S.gs[k]? = some g) {r : List V} (hr : r ∈ S.rows) : ∃ q, (grpS S k (keyR g r)).head? = some q ∧ q ∈ S.rows := by
  have e : grpS S k (keyR g r) = S.rows.filter fun q => sameR (keyR g q) (keyR g r) := by
    unfold grpS
    rw [hg]
  have hm : r ∈ grpS S k (keyR g r) := by rw [e]; exact List.mem_filter.2 ⟨hr, sameR_iff.2 rfl⟩
  cases hc : grpS S k (keyR g r) with
  | nil => rw [hc] at hm; cases hm
  | cons q l =>
    refine ⟨q, rfl, ?_⟩
    have h1 : q ∈ grpS S k (keyR g r) := by rw [hc]; exact List.mem_cons_self ..
    rw [e] at h1
    exact (List.mem_filter.1 h1).1
end Go.Proofs.YtifloafhpeeepaaGreat
