/-
  NaiveTurned: what its loops keep in memory.
-/
import Derived.Test.YtpfjkjmimmklcaaNaiTurnP
import Derived.Test.YtpfjkjmimmklcaaPlainW
import Derived.Test.YtpfjkjmimmklcaaNaiH
import Derived.Test.YtpfjkjmimmklcaaCloseA
namespace Go.Proofs.Ytpfjkjmimmklcaa
open Go.RowKit

/-- elements of two cells: one is turned -/
theorem els_put {α : Type} {R : World → List Value → α → Prop} {w : World} {cells : List Value} {xs : List α} (h : Els R 2 w cells xs) : ∀ {i : Nat} {x y : Value} {z : α}, i < xs.length → OneCells [x, y] → R w [x, y] z → Els R 2 w ((cells.set (i * 2) x).set (i * 2 + 1) y) (xs.set i z) := by
  induction h with
  | nil => intro i x y z hi; simp at hi
  | @cons cs a cells xs h1 h2 h3 h4 ih =>
    intro i x y z hi ho hr
    cases i with
    | zero =>
      match cs, h1 with
      | [c0, c1], _ => exact .cons (cs := [x, y]) rfl ho hr h4
    | succ i =>
      match cs, h1 with
      | [c0, c1], _ =>
        have e : ((([c0, c1] ++ cells).set ((i + 1) * 2) x).set ((i + 1) * 2 + 1) y) = [c0, c1] ++ ((cells.set (i * 2) x).set (i * 2 + 1) y) := by
          rw [show (i + 1) * 2 = i * 2 + 1 + 1 by omega]
          rfl
        rw [e, List.set_cons_succ]
        exact .cons rfl h2 h3 (ih (by simpa using hi) ho hr)
theorem own_two {w : World} {base m d : Nat} {e : TypeId} {B : Option Addr} {cells : List Value} {i : Nat} (h : w.ownsRow base e 2 (.slice B m d) m cells) (hi : i < m) :
    ∃ (b : Nat), B = some ⟨b, 0, none⟩ ∧ base ≤ b ∧ b < w.heap.size ∧ (∀ j, j < 2 → w.cell? ⟨b, i * 2 + j, none⟩ = cells[i * 2 + j]?) ∧ (∀ i, w.frozen? ⟨b, i, none⟩ = false) ∧ (∃ cs, Blk w b e cs) ∧
      ∀ x y : Value, ((w.setCell ⟨b, i * 2, none⟩ x).setCell ⟨b, i * 2 + 1, none⟩ y).ownsRow base e 2 (.slice B m d) m ((cells.set (i * 2) x).set (i * 2 + 1) y) := by
  obtain ⟨h1, h2⟩ := h
  rcases h2 with ⟨_, h3⟩ | ⟨g, cap, cur, he, hb, hh, hn, hc, hs, ht⟩
  · omega
  · injection he with e1 e2 e3
    subst e1; subst e3
    have hB : Blk w g e cur := hh
    refine ⟨g, rfl, hb, hB.lt, fun j hj => ?_, hB.frozen, ⟨_, hB⟩, fun x y => ⟨by simpa using h1, .inr ⟨g, d, _, rfl, hb, (hB.set_ (i * 2) x).set_ (i * 2 + 1) y, hn, hc, by simp [hs], ?_⟩⟩⟩
    · rw [hB.cell, ← ht, List.getElem?_take, if_pos (by omega)]
      simp
    · rw [← ht]
      simp only [Array.toList_setIfInBounds, List.take_set]

/-- the plain form, its atoms being turned round -/
structure TurnM (W w : World) (g9 : Nat) (nm : ByteArray) (hd : List ByteArray) (B : Option Addr) (m d : Nat) (cur : List Atm) : Prop where
  var : ∃ gh, Blk w g9 25 #[.string nm, .slice (some ⟨gh, 0, none⟩) hd.length hd.length, .slice B m d] ∧ Blk w gh 9 (strC hd).toArray
  atoms : ∃ (ps : List (Atm × Nat)) (cells : List Value), ps.map (·.1) = cur ∧ Els RCp 2 w cells ps ∧ m = ps.length ∧ w.ownsRow W.heap.size 40 2 (.slice B m d) m cells
  ext : Ext W w
theorem TurnM.go {W w w' : World} {g9 : Nat} {nm : ByteArray} {hd : List ByteArray} {B : Option Addr} {m d : Nat} {cur : List Atm} (h : TurnM W w g9 nm hd B m d cur) (hw : Ext w w') : TurnM W w' g9 nm hd B m d cur := by
  obtain ⟨gh, h1, h2⟩ := h.var
  obtain ⟨ps, cells, h3, h4, h5, h6⟩ := h.atoms
  exact ⟨⟨gh, h1.ext hw, h2.ext hw⟩, ⟨ps, cells, h3, h4.ext RCp.stab hw, h5, mine_ext h6 hw⟩, h.ext.trans hw⟩
theorem TurnM.len {W w : World} {g9 : Nat} {nm : ByteArray} {hd : List ByteArray} {B : Option Addr} {m d : Nat} {cur : List Atm} (h : TurnM W w g9 nm hd B m d cur) : m = cur.length := by
  obtain ⟨ps, cells, h3, h4, h5, h6⟩ := h.atoms
  rw [← h3, List.length_map]; exact h5
theorem TurnM.put {W w : World} {g9 : Nat} {nm : ByteArray} {hd : List ByteArray} {B : Option Addr} {m d i gt : Nat} {cur : List Atm} {a : Atm} (h : TurnM W w g9 nm hd B m d cur) (hi : i < m) (ht : Blk w gt 60 (tmC a.terms).toArray) :
    ∃ b, B = some ⟨b, 0, none⟩ ∧ (∃ u, w.cell? ⟨b, i * 2, none⟩ = some u) ∧ (∃ u, w.cell? ⟨b, i * 2 + 1, none⟩ = some u) ∧ (∀ i, w.frozen? ⟨b, i, none⟩ = false) ∧
      TurnM W ((w.setCell ⟨b, i * 2, none⟩ (.string a.rel)).setCell ⟨b, i * 2 + 1, none⟩ (.slice (some ⟨gt, 0, none⟩) a.terms.length a.terms.length)) g9 nm hd B m d (cur.set i a) := by
  obtain ⟨gh, h1, h2⟩ := h.var
  obtain ⟨ps, cells, h3, h4, h5, h6⟩ := h.atoms
  obtain ⟨b, hB, hb, hlt, hcell, hfr, ⟨cs, hbk⟩, hput⟩ := own_two h6 hi
  have hl := h6.1
  have far : ∀ {g : Nat} {t : TypeId} {ds : Array Value} (u v : Value), Blk w g t ds → t ≠ 40 → Blk ((w.setCell ⟨b, i * 2, none⟩ u).setCell ⟨b, i * 2 + 1, none⟩ v) g t ds := fun u v hg hne =>
    (hg.far (p := ⟨b, i * 2, none⟩) (blk_ne hg hbk hne) u).far (p := ⟨b, i * 2 + 1, none⟩) (blk_ne hg hbk hne) v
  refine ⟨b, hB, ⟨_, (hcell 0 (by omega)).trans (List.getElem?_eq_getElem (by omega))⟩, ⟨_, (hcell 1 (by omega)).trans (List.getElem?_eq_getElem (by omega))⟩, hfr, ⟨gh, far _ _ h1 (by decide), far _ _ h2 (by decide)⟩,
    ⟨ps.set i (a, gt), _, ?_, els_put (z := (a, gt)) (h4.mono fun _ _ ⟨e1, e2⟩ => ⟨e1, far _ _ e2 (by decide)⟩) (by omega) (cp_one (a, gt)) ⟨rfl, far _ _ ht (by decide)⟩, by simpa using h5, hput _ _⟩, (h.ext.setCell (p := ⟨b, i * 2, none⟩) hb _).setCell (p := ⟨b, i * 2 + 1, none⟩) hb _⟩
  rw [List.map_set, h3]
theorem TurnM.start {W w w' : World} {g9 : Nat} {L : QLoc} {q : Qy} (h : Copied W w L q) (hE : Ext W w) (hw : Ext w w') (hb : Blk w' g9 25 #[.string q.name, .slice L.A L.n L.c, .slice L.B L.m L.d]) : TurnM W w' g9 q.name q.head L.B L.m L.d q.atoms := by
  obtain ⟨gh, h1, h2, h3, h4, h5⟩ := h.head
  obtain ⟨ps, cells, k1, k2, k3, k4, k5, k6⟩ := h.atoms
  rw [h2, h3, h4] at hb
  exact ⟨⟨gh, hb, h5.ext hw⟩, ⟨ps, cells, k1, k2.ext RCp.stab hw, k3, mine_ext k4 hw⟩, hE.trans hw⟩
theorem TurnM.qat {W w : World} {g9 : Nat} {nm : ByteArray} {hd : List ByteArray} {B : Option Addr} {m d : Nat} {cur : List Atm} (h : TurnM W w g9 nm hd B m d cur) :
    ∃ gh, Blk w g9 25 #[.string nm, .slice (some ⟨gh, 0, none⟩) hd.length hd.length, .slice B m d] ∧ QAt w ⟨some ⟨gh, 0, none⟩, hd.length, hd.length, B, m, d⟩ ⟨nm, hd, cur⟩ := by
  obtain ⟨gh, h1, h2⟩ := h.var
  obtain ⟨ps, cells, h3, h4, h5, h6⟩ := h.atoms
  refine ⟨gh, h1, blk_texts h2, ?_, Nat.le_refl _⟩
  have h9 := els_atoms h4
  rw [h3] at h9
  exact LAt.own (by rw [← h3, List.length_map]; exact h5) h9 h6

/-- any plain form is small -/
theorem seen_big {q : Qy} (hM : smallM 1048576 q) : (seenQ q).length ≤ 2199023255552 := by
  have h1 : ∀ (l acc : List ByteArray), (l.foldl addV acc).length ≤ acc.length + l.length := by
    intro l
    induction l with
    | nil => intro acc; simp
    | cons x l ih =>
      intro acc
      rw [List.foldl_cons, List.length_cons]
      have h2 := ih (addV acc x)
      have h3 : (addV acc x).length ≤ acc.length + 1 := by
        unfold addV
        split
        · omega
        · simp
      omega
  have h2 : ∀ l : List Atm, (∀ a ∈ l, a.terms.length ≤ 1048576) → (l.flatMap (·.terms)).length ≤ l.length * 1048576 := by
    intro l
    induction l with
    | nil => simp
    | cons a l ih =>
      intro h
      have h4 := h a (by simp)
      have h5 := ih (fun b hb => h b (by simp [hb]))
      rw [List.flatMap_cons, List.length_append, List.length_cons]
      omega
  have h3 := h1 (oldQ q) []
  have h4 := h2 q.atoms (fun a ha => (hM.atoms a ha).len)
  have h5 := hM.atomsL
  have h6 := hM.headL
  have h7 : (oldQ q).length ≤ q.head.length + (q.atoms.flatMap (·.terms)).length := by
    unfold oldQ varsL
    rw [List.length_append, List.length_map]
    have := List.length_filter_le (fun t : Tm => !noVar t) (q.atoms.flatMap (·.terms))
    omega
  have h8 : q.atoms.length * 1048576 ≤ 1048576 * 1048576 := Nat.mul_le_mul_right _ h5
  unfold seenQ
  simp only [List.length_nil] at h3
  omega
theorem vName_le {n : Nat} (h : n ≤ 2199023255552) : (vName n).size ≤ 1048576 := by
  have h1 := digL_le 12 n (by omega)
  show (118 :: digL n).toArray.size ≤ 1048576
  simp only [List.size_toArray, List.length_cons]
  omega
theorem atN_le (l : List ByteArray) (x : ByteArray) : atN l x ≤ l.length := by
  by_cases h : x ∈ l
  · have := (List.getElem?_eq_some_iff.1 (atN_get h)).1
    omega
  · have h0 : ¬ 0 ≤ firstI (eqB x) l 0 := fun h1 => h (memB_iff.1 ((firstI_iff _ _ _).1 h1))
    unfold atN
    omega
theorem ren_small {q : Qy} (hM : smallM 1048576 q) (x : ByteArray) : (ren q x).size ≤ 1048576 := vName_le (Nat.le_trans (atN_le _ _) (seen_big hM))
theorem plain_small_any {q : Qy} (hM : smallM 1048576 q) : smallM 1048576 (plainQ q) := by
  refine ⟨hM.name, by simpa [plainQ] using hM.headL, fun x hx => ?_, by simpa [plainQ] using hM.atomsL, fun a ha => ?_⟩
  · obtain ⟨y, -, rfl⟩ := List.mem_map.1 hx
    exact ren_small hM y
  · obtain ⟨b, hb, rfl⟩ := List.mem_map.1 ha
    have h := hM.atoms b hb
    refine ⟨h.rel, by simpa [renA] using h.len, fun t ht => ?_⟩
    obtain ⟨u, hu, rfl⟩ := List.mem_map.1 ht
    have h1 := h.terms u hu
    unfold renT
    split
    · exact h1
    · exact ⟨ren_small hM _, h1.2⟩
theorem turn_small {q : Qy} {cur : List Atm} (hM : smallM 1048576 (plainQ q)) (hl : cur.length = (plainQ q).atoms.length) (hc : ∀ a ∈ cur, a ∈ (plainQ q).atoms) : smallM 1048576 ⟨(plainQ q).name, (plainQ q).head, cur⟩ :=
  ⟨hM.name, hM.headL, hM.heads, by rw [hl]; exact hM.atomsL, fun a ha => hM.atoms a (hc a ha)⟩
end Go.Proofs.Ytpfjkjmimmklcaa
