/-
  A copy of a query whose texts are being written over: the parts.
-/
import Derived.Test.YtpfjkjmimmklcaaDigits
import Derived.Test.YtpfjkjmimmklcaaLawFinds
namespace Go.Proofs.Ytpfjkjmimmklcaa
open Go.RowKit

theorem copy_cp (q : Qy) (L : QLoc) (w : World) (hq : QAt w L q) (hM : smallM 1048576 q) :
    Calls Try.prog 14 #[qval q.name L] w fun e w' => ∃ A n c B m d, e = .returned (.agg #[.string q.name, .slice A n c, .slice B m d]) ∧ Copied w w' ⟨A, n, c, B, m, d⟩ q ∧ Ext w w' :=
  (copy_query q L w hq hM).mono fun _ _ ⟨_, h1, h2, h3⟩ => ⟨_, _, _, _, _, _, h1, h2, h3⟩
/-- how long a list may have become: i rows of at most 1048576, and j more -/
structure LenB (n i j : Nat) : Prop where
  out : n ≤ (i + 1) * 1048576 + j
theorem LenB.start {n : Nat} (h : n ≤ 1048576) : LenB n 0 0 := ⟨by omega⟩
theorem LenB.next {n i j : Nat} (h : LenB n i j) : LenB (n + 1) i (j + 1) := ⟨by have := h.out; omega⟩
theorem LenB.skip {n i j : Nat} (h : LenB n i j) : LenB n i (j + 1) := ⟨by have := h.out; omega⟩
theorem lenB_aux {n i j M : Nat} (h : n ≤ (i + 1) * M + j) (hj : j ≤ M) : n ≤ (i + 1 + 1) * M + 0 := by
  rw [Nat.succ_mul (i + 1)]
  omega
theorem LenB.row {n i j : Nat} (h : LenB n i j) (hj : j ≤ 1048576) : LenB n (i + 1) 0 := ⟨lenB_aux h.out hj⟩
theorem LenB.get {n i j : Nat} (h : LenB n i j) (hi : i ≤ 1048576) (hj : j ≤ 1048576) : n ≤ 2199023255552 := by have := h.out; omega
theorem addV_in {acc : List ByteArray} {v : ByteArray} (h : memB acc v = true) : addV acc v = acc := if_pos h
theorem addV_out {acc : List ByteArray} {v : ByteArray} (h : memB acc v = false) : addV acc v = acc ++ [v] := if_neg (by rw [h]; decide)
theorem wrap_nat (k : Nat) (h : k < 18446744073709551616) : Value.int .u64 (IntKind.u64.wrap ((k : Nat) : Int)) = .int .u64 ((k : Nat) : Int) := by
  rw [IntKind.wrap_u64]
  congr 1
  omega
theorem slS {w : World} {A : Option Addr} {n : Nat} {xs : List ByteArray} (h : LAt RS 1 w A n xs) : Sl w A n 1 (strC xs) := by
  obtain ⟨_, cells, h2, h3⟩ := h
  rw [show strC xs = cells from (Els.flat_eq h2).symm]
  exact h3
def cpC (p : Atm × Nat) : List Value := [.string p.1.rel, .slice (some ⟨p.2, 0, none⟩) p.1.terms.length p.1.terms.length]
theorem els_cp {w : World} : ∀ ps : List (Atm × Nat), (∀ p ∈ ps, Blk w p.2 60 (tmC p.1.terms).toArray) → Els RCp 2 w (ps.flatMap cpC) ps
  | [], _ => .nil
  | p :: ps, h => by
    rw [List.flatMap_cons]
    exact .cons rfl (cp_one p) ⟨rfl, h p (List.mem_cons_self ..)⟩ (els_cp ps fun x hx => h x (List.mem_cons_of_mem _ hx))
theorem els_cp_inv {w : World} {cells : List Value} {ps : List (Atm × Nat)} (h : Els RCp 2 w cells ps) : cells = ps.flatMap cpC ∧ ∀ p ∈ ps, Blk w p.2 60 (tmC p.1.terms).toArray := by
  induction h with
  | nil => exact ⟨rfl, fun p h => by cases h⟩
  | cons _ _ h3 _ ih =>
    refine ⟨by rw [List.flatMap_cons, ← ih.1, h3.1]; rfl, fun p hp => ?_⟩
    rcases List.mem_cons.1 hp with rfl | hp
    · exact h3.2
    · exact ih.2 p hp
theorem els_flat_cp (w : World) (ps : List (Atm × Nat)) : Els (RFlat cpC) 2 w (ps.flatMap cpC) ps := Els.flat (f := cpC) (fun _ => rfl) cp_one ps
theorem pw_ne {ps : List (Atm × Nat)} (h : (ps.map (·.2)).Pairwise (· < ·)) {i k : Nat} {p p' : Atm × Nat} (hi : ps[i]? = some p) (hk : ps[k]? = some p') (hne : k ≠ i) : p'.2 ≠ p.2 := by
  obtain ⟨l1, e1⟩ := List.getElem?_eq_some_iff.1 hi
  obtain ⟨l2, e2⟩ := List.getElem?_eq_some_iff.1 hk
  rcases Nat.lt_or_gt_of_ne hne with hlt | hlt
  · have := List.pairwise_iff_getElem.1 h k i (by simpa using l2) (by simpa using l1) hlt
    simp only [List.getElem_map, e1, e2] at this
    omega
  · have := List.pairwise_iff_getElem.1 h i k (by simpa using l1) (by simpa using l2) hlt
    simp only [List.getElem_map, e1, e2] at this
    omega
theorem tmC_set (a b : List Tm) (x : Tm) (s : ByteArray) : (tmC (a ++ x :: b)).toArray.setIfInBounds (a.length * 4) (.string s) = (tmC (a ++ ⟨s, x.c⟩ :: b)).toArray := by
  have hl := tmC_len a
  rw [List.setIfInBounds_toArray]
  congr 1
  rw [tmC_append, tmC_append, List.set_append_right _ _ (by omega), hl, Nat.sub_self]
  rfl
theorem strC_set (a b : List ByteArray) (x s : ByteArray) : (strC (a ++ x :: b)).toArray.setIfInBounds a.length (.string s) = (strC (a ++ s :: b)).toArray := by
  have hl := strC_len a
  rw [List.setIfInBounds_toArray]
  congr 1
  have e : ∀ u v : List ByteArray, strC (u ++ v) = strC u ++ strC v := fun u v => by simp [strC]
  rw [e, e, List.set_append_right _ _ (by omega), hl, Nat.sub_self]
  rfl
theorem strC_map : ∀ xs : List ByteArray, strC xs = xs.map Value.string
  | [] => rfl
  | x :: r => by rw [show strC (x :: r) = .string x :: strC r from rfl, strC_map r]; rfl
theorem strC_get {xs : List ByteArray} {i : Nat} {x : ByteArray} (h : xs[i]? = some x) : (strC xs)[i]? = some (.string x) := by
  rw [strC_map, List.getElem?_map, h]; rfl
/-- the first i of them turned -/
def partL {α : Type} (f : α → α) (i : Nat) (xs : List α) : List α := (xs.take i).map f ++ xs.drop i
theorem partL_zero {α : Type} (f : α → α) (xs : List α) : partL f 0 xs = xs := by simp [partL]
theorem partL_all {α : Type} (f : α → α) (xs : List α) : partL f xs.length xs = xs.map f := by simp [partL]
theorem partL_len {α : Type} (f : α → α) (i : Nat) (xs : List α) : (partL f i xs).length = xs.length := by simp [partL]; omega
theorem partL_at {α : Type} (f : α → α) {i : Nat} {xs : List α} {x : α} (h : xs[i]? = some x) : partL f i xs = (xs.take i).map f ++ x :: xs.drop (i + 1) ∧ partL f (i + 1) xs = (xs.take i).map f ++ f x :: xs.drop (i + 1) := by
  obtain ⟨hl, e⟩ := List.getElem?_eq_some_iff.1 h
  constructor
  · unfold partL; rw [List.drop_eq_getElem_cons hl, e]
  · unfold partL; rw [take_next xs i x h, List.map_append, List.append_assoc]; rfl
theorem partL_get {α : Type} (f : α → α) {i : Nat} {xs : List α} {x : α} (h : xs[i]? = some x) : (partL f i xs)[i]? = some x := by
  obtain ⟨hl, _⟩ := List.getElem?_eq_some_iff.1 h
  rw [(partL_at f h).1, List.getElem?_append_right (by simp; omega)]
  simp [List.length_take, Nat.min_eq_left (Nat.le_of_lt hl)]
theorem partL_keep {α : Type} (f : α → α) {i : Nat} {xs : List α} {x : α} (h : xs[i]? = some x) (hf : f x = x) : partL f (i + 1) xs = partL f i xs := by
  rw [(partL_at f h).1, (partL_at f h).2, hf]
theorem tmC_part (f : Tm → Tm) {j : Nat} {ts : List Tm} {t : Tm} {s : ByteArray} (h : ts[j]? = some t) (hf : f t = ⟨s, t.c⟩) : (tmC (partL f j ts)).toArray.setIfInBounds (j * 4) (.string s) = (tmC (partL f (j + 1) ts)).toArray := by
  obtain ⟨hl, _⟩ := List.getElem?_eq_some_iff.1 h
  have h1 := tmC_set ((ts.take j).map f) (ts.drop (j + 1)) t s
  rw [List.length_map, List.length_take, Nat.min_eq_left (Nat.le_of_lt hl)] at h1
  rw [(partL_at f h).1, (partL_at f h).2, hf, h1]
theorem strC_part (f : ByteArray → ByteArray) {j : Nat} {ts : List ByteArray} {t : ByteArray} (h : ts[j]? = some t) : (strC (partL f j ts)).toArray.setIfInBounds j (.string (f t)) = (strC (partL f (j + 1) ts)).toArray := by
  obtain ⟨hl, _⟩ := List.getElem?_eq_some_iff.1 h
  have h1 := strC_set ((ts.take j).map f) (ts.drop (j + 1)) t (f t)
  rw [List.length_map, List.length_take, Nat.min_eq_left (Nat.le_of_lt hl)] at h1
  rw [(partL_at f h).1, (partL_at f h).2, h1]
/-- the terms of the k-th atom while the j-th term of the i-th one is at work -/
def curT (f : Tm → Tm) (i j k : Nat) (ts : List Tm) : List Tm := if k < i then ts.map f else if k = i then partL f j ts else ts
theorem curT_zero (f : Tm → Tm) (k : Nat) (ts : List Tm) : curT f 0 0 k ts = ts := by simp [curT, partL_zero]
theorem curT_at (f : Tm → Tm) (i j : Nat) (ts : List Tm) : curT f i j i ts = partL f j ts := by simp [curT]
theorem curT_ne (f : Tm → Tm) {i k : Nat} (h : k ≠ i) (j j' : Nat) (ts : List Tm) : curT f i j k ts = curT f i j' k ts := by simp [curT, h]
theorem curT_next (f : Tm → Tm) {i j k : Nat} {ts : List Tm} (h : k = i → j = ts.length) : curT f i j k ts = curT f (i + 1) 0 k ts := by
  unfold curT
  by_cases h1 : k < i
  · rw [if_pos h1, if_pos (by omega)]
  · by_cases h2 : k = i
    · rw [if_neg h1, if_pos h2, if_pos (by omega), h h2, partL_all]
    · rw [if_neg h1, if_neg h2, if_neg (by omega)]
      split
      · rw [partL_zero]
      · rfl
theorem curT_done (f : Tm → Tm) {i k : Nat} (h : k < i) (j : Nat) (ts : List Tm) : curT f i j k ts = ts.map f := by simp [curT, h]

/-- a copy that is being written over; its box is g8 -/
structure PInv (W w : World) (g8 gh : Nat) (nm : ByteArray) (hd hd' : List ByteArray) (ps : List (Atm × Nat)) (F : Nat → List Tm → List Tm) (B : Option Addr) (m d : Nat) : Prop where
  var : Blk w g8 25 #[.string nm, .slice (some ⟨gh, 0, none⟩) hd.length hd.length, .slice B m d]
  head : Blk w gh 9 (strC hd').toArray
  row : w.ownsRow W.heap.size 40 2 (.slice B m d) m (ps.flatMap cpC)
  terms : ∀ k p, ps[k]? = some p → Blk w p.2 60 (tmC (F k p.1.terms)).toArray
  ext : Ext W w
theorem PInv.atoms {W w : World} {g8 gh : Nat} {nm : ByteArray} {hd hd' : List ByteArray} {ps : List (Atm × Nat)} {F : Nat → List Tm → List Tm} {B : Option Addr} {m d : Nat} (h : PInv W w g8 gh nm hd hd' ps F B m d) (hm : m = ps.length) : LAt (RFlat cpC) 2 w B m ps :=
  LAt.own hm (els_flat_cp w ps) h.row
theorem PInv.setH {W w : World} {g8 gh : Nat} {nm : ByteArray} {hd : List ByteArray} {ps : List (Atm × Nat)} {F : Nat → List Tm → List Tm} {B : Option Addr} {m d : Nat} {f : ByteArray → ByteArray} {i : Nat} {x : ByteArray} (h : PInv W w g8 gh nm hd (partL f i hd) ps F B m d) (hx : hd[i]? = some x) (hgh : W.heap.size ≤ gh) :
    PInv W (w.setCell ⟨gh, i, none⟩ (.string (f x))) g8 gh nm hd (partL f (i + 1) hd) ps F B m d := by
  refine ⟨h.var.far (blk_ne h.var h.head (by decide)) _, ?_, own_set h.row h.head (by decide) i _, fun k p hp => (h.terms k p hp).far (blk_ne (h.terms k p hp) h.head (by decide)) _, h.ext.setCell (p := ⟨gh, i, none⟩) hgh _⟩
  rw [← strC_part f hx]
  exact h.head.set_ i _
theorem PInv.setT {W w : World} {g8 gh : Nat} {nm : ByteArray} {hd hd' : List ByteArray} {ps : List (Atm × Nat)} {B : Option Addr} {m d : Nat} {f : Tm → Tm} {i j : Nat} {p : Atm × Nat} {t : Tm} {s : ByteArray} (h : PInv W w g8 gh nm hd hd' ps (curT f i j) B m d) (hpw : (ps.map (·.2)).Pairwise (· < ·)) (hp : ps[i]? = some p) (ht : p.1.terms[j]? = some t) (hf : f t = ⟨s, t.c⟩) (hge : W.heap.size ≤ p.2) :
    PInv W (w.setCell ⟨p.2, j * 4, none⟩ (.string s)) g8 gh nm hd hd' ps (curT f i (j + 1)) B m d := by
  have hb := h.terms i p hp
  refine ⟨h.var.far (blk_ne h.var hb (by decide)) _, h.head.far (blk_ne h.head hb (by decide)) _, own_set h.row hb (by decide) _ _, fun k p' hp' => ?_, h.ext.setCell (p := ⟨p.2, j * 4, none⟩) hge _⟩
  by_cases hk : k = i
  · subst hk
    rw [hp] at hp'
    injection hp' with hp'
    subst hp'
    rw [curT_at, ← tmC_part f ht hf]
    rw [curT_at] at hb
    exact hb.set_ _ _
  · have h1 := h.terms k p' hp'
    rw [curT_ne f hk (j + 1) j]
    exact h1.far (pw_ne hpw hp hp' hk) _
theorem PInv.congr {W w : World} {g8 gh : Nat} {nm : ByteArray} {hd hd' : List ByteArray} {ps : List (Atm × Nat)} {F G : Nat → List Tm → List Tm} {B : Option Addr} {m d : Nat} (h : PInv W w g8 gh nm hd hd' ps F B m d) (hFG : ∀ k p, ps[k]? = some p → F k p.1.terms = G k p.1.terms) : PInv W w g8 gh nm hd hd' ps G B m d :=
  ⟨h.var, h.head, h.row, fun k p hp => by rw [← hFG k p hp]; exact h.terms k p hp, h.ext⟩
theorem PInv.mono {W w w' : World} {g8 gh : Nat} {nm : ByteArray} {hd hd' : List ByteArray} {ps : List (Atm × Nat)} {F : Nat → List Tm → List Tm} {B : Option Addr} {m d : Nat} (h : PInv W w g8 gh nm hd hd' ps F B m d) (hw : Ext w w') : PInv W w' g8 gh nm hd hd' ps F B m d :=
  ⟨h.var.ext hw, h.head.ext hw, own_ext h.row hw, fun k p hp => (h.terms k p hp).ext hw, h.ext.trans hw⟩
theorem PInv.atc {W w : World} {g8 gh : Nat} {nm : ByteArray} {hd hd' : List ByteArray} {ps : List (Atm × Nat)} {F : Nat → List Tm → List Tm} {bb boff m d i : Nat} {p : Atm × Nat} (h : PInv W w g8 gh nm hd hd' ps F (some ⟨bb, boff, none⟩) m d) (hm : m = ps.length) (hp : ps[i]? = some p) :
    w.cell? ⟨bb, boff + i * 2 + 1, none⟩ = some (.slice (some ⟨p.2, 0, none⟩) p.1.terms.length p.1.terms.length) := by
  obtain ⟨hl, _⟩ := List.getElem?_eq_some_iff.1 hp
  obtain ⟨b, off, x, cs, hA, hx, hb1, hcl, hone, hcs, hcell⟩ := (h.atoms hm).get (i := i) (by omega) (by omega)
  injection hA with hA
  injection hA with e1 e2
  subst e1; subst e2
  rw [hp] at hx
  injection hx with hx
  subst hx
  obtain rfl : cs = cpC p := hcs
  exact hcell 1 (by omega)
theorem PInv.tmv {W w : World} {g8 gh : Nat} {nm : ByteArray} {hd hd' : List ByteArray} {ps : List (Atm × Nat)} {f : Tm → Tm} {B : Option Addr} {m d i j : Nat} {p : Atm × Nat} {t : Tm} (h : PInv W w g8 gh nm hd hd' ps (curT f i j) B m d) (hp : ps[i]? = some p) (ht : p.1.terms[j]? = some t) :
    w.cell? ⟨p.2, j * 4, none⟩ = some (.string t.v) ∧ w.frozen? ⟨p.2, j * 4, none⟩ = false := by
  have hb := h.terms i p hp
  rw [curT_at] at hb
  obtain ⟨hl, _⟩ := List.getElem?_eq_some_iff.1 ht
  obtain ⟨b, off, x, hA, hx, _, c0, _⟩ := (blk_terms hb).tm (i := j) (by rw [partL_len]; exact hl)
  injection hA with hA
  injection hA with e1 e2
  subst e1; subst e2
  rw [partL_get f ht] at hx
  injection hx with hx
  subst hx
  rw [Nat.zero_add] at c0
  exact ⟨c0, hb.frozen _⟩
theorem hge_at {ps : List (Atm × Nat)} {N i : Nat} {p : Atm × Nat} (h : ∀ p ∈ ps, N ≤ p.2) (hp : ps[i]? = some p) : N ≤ p.2 := h p (List.mem_of_getElem? hp)
theorem ren_parts {q : Qy} {x : ByteArray} (hx : x ∈ seenQ q) (hl : (seenQ q).length ≤ 2199023255552) : ∃ (k : Nat) (db : ByteArray), firstI (eqB x) (seenQ q) 0 = (k : Int) ∧ k ≤ 2199023255552 ∧ db = ⟨(digL k).toArray⟩ ∧ db.size ≤ 20 ∧ (⟨#[118]⟩ : ByteArray) ++ db = ren q x := by
  obtain ⟨k, hk1, hk2⟩ := at_mem hx
  have hkl : k ≤ 2199023255552 := by
    have h1 := (List.getElem?_eq_some_iff.1 hk2).1
    omega
  refine ⟨k, _, hk1, hkl, rfl, by have := digL_le 19 k (by omega); simpa [ByteArray.size] using this, ?_⟩
  have h1 : atN (seenQ q) x = k := by unfold atN; rw [hk1]; rfl
  unfold ren vName
  rw [h1]
  exact str_eq (by simp)
/-- a fresh copy, in its box -/
theorem PInv.start {W w1 : World} {A : Option Addr} {n c : Nat} {B : Option Addr} {m d : Nat} {nm : ByteArray} {hd : List ByteArray} {as_ : List Atm} (h : Copied W w1 ⟨A, n, c, B, m, d⟩ ⟨nm, hd, as_⟩) (hE : Ext W w1) :
    ∃ gh ps, A = some ⟨gh, 0, none⟩ ∧ n = hd.length ∧ c = hd.length ∧ m = ps.length ∧ ps.map (·.1) = as_ ∧ (ps.map (·.2)).Pairwise (· < ·) ∧ (∀ p ∈ ps, W.heap.size ≤ p.2) ∧ W.heap.size ≤ gh ∧
      PInv W (w1.alloc (.cells #[.string nm, .slice A n c, .slice B m d] 25)) w1.heap.size gh nm hd hd ps (fun _ ts => ts) B m d := by
  obtain ⟨gh, h0, hA, hn, hc, hB⟩ := h.head
  obtain ⟨ps, cells, h5, h6, h7, h8, h9, h10⟩ := h.atoms
  dsimp only at hA hn hc h7 h8
  obtain ⟨rfl, h11⟩ := els_cp_inv h6
  subst hA; subst hn; subst hc
  refine ⟨gh, ps, rfl, rfl, rfl, h7, h5, h10, h9, h0, Blk.new _ _ _, hB.ext (Ext.alloc _ _), own_ext h8 (Ext.alloc _ _), fun k p hp => (h11 p (List.mem_of_getElem? hp)).ext (Ext.alloc _ _), hE.alloc' _⟩
/-- at the end -/
theorem PInv.done {W W0 w : World} {g8 gh : Nat} {nm : ByteArray} {ps : List (Atm × Nat)} {B : Option Addr} {m d : Nat} {q : Qy} (h : PInv W w g8 gh nm q.head (partL (ren q) q.head.length q.head) ps (curT (renT q) ps.length 0) B m d) (hW : W0.heap.size ≤ W.heap.size) (hm : m = ps.length) (hps : ps.map (·.1) = q.atoms) (hpw : (ps.map (·.2)).Pairwise (· < ·)) (hge : ∀ p ∈ ps, W.heap.size ≤ p.2) (hgh : W.heap.size ≤ gh) :
    Copied W0 w ⟨some ⟨gh, 0, none⟩, q.head.length, q.head.length, B, m, d⟩ (plainQ q) := by
  refine ⟨⟨gh, Nat.le_trans hW hgh, rfl, by simp [plainQ], by simp [plainQ], by have := h.head; rw [partL_all] at this; exact this⟩, ⟨ps.map fun p => (renA q p.1, p.2), ps.flatMap cpC, ?_, ?_, by simp; exact hm, own_base h.row hW, fun p hp => ?_, ?_⟩⟩
  · rw [List.map_map]
    show _ = q.atoms.map (renA q)
    rw [← hps, List.map_map]
    rfl
  · have := els_cp (w := w) (ps.map fun p => (renA q p.1, p.2)) fun x hx => by
      obtain ⟨p, hp, rfl⟩ := List.mem_map.1 hx
      obtain ⟨k, hk, e⟩ := List.getElem_of_mem hp
      have h1 := h.terms k p (by rw [List.getElem?_eq_getElem hk, e])
      rw [curT_done _ hk] at h1
      exact h1
    have e : (ps.map fun p => (renA q p.1, p.2)).flatMap cpC = ps.flatMap cpC := by
      rw [List.flatMap_map]
      congr 1
      funext p
      simp [cpC, renA]
    rwa [e] at this
  · obtain ⟨p', hp', rfl⟩ := List.mem_map.1 hp
    exact Nat.le_trans hW (hge p' hp')
  · rw [List.map_map]
    exact hpw
end Go.Proofs.Ytpfjkjmimmklcaa
