/-
  NaiveApart: what its loops keep in memory.
-/
import Derived.Test.YtpfjkjmimmklcaaNaiApartP
import Derived.Test.YtpfjkjmimmklcaaNaiTurnM
import Derived.Test.YtpfjkjmimmklcaaLawFinds
namespace Go.Proofs.Ytpfjkjmimmklcaa
open Go.RowKit

theorem own_le {w : World} {base n c : Nat} {e : TypeId} {s : Nat} {A : Option Addr} {xs : List Value} (h : w.ownsRow base e s (.slice A n c) n xs) : n ≤ c := by
  obtain ⟨h1, h2⟩ := h
  rcases h2 with ⟨h3, h4⟩ | ⟨g, cap, cur, he, hb, hh, hn2, hc, hs, ht⟩
  · omega
  · injection he with e1 e2 e3
    omega
/-- two queries that are being put together -/
structure BothM (W w : World) (g9 : Nat) (nm : ByteArray) (hd : List ByteArray) (A : Option Addr) (c : Nat) (ps : List (Atm × Nat)) (B : Option Addr) (d : Nat) : Prop where
  var : Blk w g9 25 #[.string nm, .slice A hd.length c, .slice B ps.length d]
  head : w.ownsRow W.heap.size 9 1 (.slice A hd.length c) hd.length (strC hd)
  row : w.ownsRow W.heap.size 40 2 (.slice B ps.length d) ps.length (ps.flatMap cpC)
  terms : ∀ p ∈ ps, Blk w p.2 60 (tmC p.1.terms).toArray
  ext : Ext W w
section
variable {W w w' : World} {g9 : Nat} {nm : ByteArray} {hd : List ByteArray} {A : Option Addr} {c : Nat} {ps : List (Atm × Nat)} {B : Option Addr} {d : Nat}
theorem BothM.go (h : BothM W w g9 nm hd A c ps B d) (hw : Ext w w') : BothM W w' g9 nm hd A c ps B d :=
  ⟨h.var.ext hw, mine_ext h.head hw, mine_ext h.row hw, fun p hp => (h.terms p hp).ext hw, h.ext.trans hw⟩
theorem BothM.start {L : QLoc} {q : Qy} (h : Copied W w L q) (hE : Ext W w) (hw : Ext w w') (hh : q.head.length ≤ 1048576) (hb : Blk w' g9 25 #[.string q.name, .slice L.A L.n L.c, .slice L.B L.m L.d]) :
    ∃ ps, ps.map (·.1) = q.atoms ∧ (∀ p ∈ ps, p.2 < w.heap.size) ∧ BothM W w' g9 q.name q.head L.A L.c ps L.B L.d := by
  obtain ⟨g, h0, h1, h2, h3, h4⟩ := h.head
  obtain ⟨ps, cells, k1, k2, k3, k4, k5, k6⟩ := h.atoms
  obtain ⟨rfl, h11⟩ := els_cp_inv k2
  rw [h2, k3] at hb
  rw [k3] at k4
  refine ⟨ps, k1, fun p hp => (h11 p hp).lt, hb, ?_, mine_ext k4 hw, fun p hp => (h11 p hp).ext hw, hE.trans hw⟩
  rw [h1, h3]
  exact own_blk (h4.ext hw) h0 (strC_len _) (by unfold maxLen; omega)
theorem BothM.pushH {A' : Option Addr} {c' : Nat} {x : ByteArray} (h : BothM W w g9 nm hd A c ps B d) (hg : w.grownBy w' (Value.slice A hd.length c).ownBlock) (hE : Ext W w')
    (ho : w'.ownsRow W.heap.size 9 1 (.slice A' (hd.length + 1) c') (hd.length + 1) (strC hd ++ [.string x])) (hg9 : W.heap.size ≤ g9) : BothM W (w'.setCell ⟨g9, 1, none⟩ (.slice A' (hd.length + 1) c')) g9 nm (hd ++ [x]) A' c' ps B d := by
  have hv := h.var.grown hg (own_ne_blk h.head h.var (by decide))
  have ht : ∀ p ∈ ps, Blk w' p.2 60 (tmC p.1.terms).toArray := fun p hp => (h.terms p hp).grown hg (own_ne_blk h.head (h.terms p hp) (by decide))
  refine ⟨?_, ?_, ?_, fun p hp => (ht p hp).far (p := ⟨g9, 1, none⟩) (blk_ne (ht p hp) hv (by decide)) _, hE.setCell (p := ⟨g9, 1, none⟩) hg9 _⟩
  · have h1 := hv.set_ 1 (.slice A' (hd.length + 1) c')
    simpa [List.length_append] using h1
  · rw [List.length_append, List.length_singleton, strC_snoc]
    exact mine_set ho hv (by decide) 1 _
  · exact mine_set (mine_other h.row h.head (by decide) hg) hv (by decide) 1 _
theorem BothM.pushA {B' : Option Addr} {d' : Nat} {p0 : Atm × Nat} (h : BothM W w g9 nm hd A c ps B d) (hg : w.grownBy w' (Value.slice B ps.length d).ownBlock) (hE : Ext W w')
    (ho : w'.ownsRow W.heap.size 40 2 (.slice B' (ps.length + 1) d') (ps.length + 1) (ps.flatMap cpC ++ cpC p0)) (h0 : Blk w p0.2 60 (tmC p0.1.terms).toArray) (hg9 : W.heap.size ≤ g9) :
    BothM W (w'.setCell ⟨g9, 2, none⟩ (.slice B' (ps.length + 1) d')) g9 nm hd A c (ps ++ [p0]) B' d' := by
  have hv := h.var.grown hg (own_ne_blk h.row h.var (by decide))
  have ht : ∀ p ∈ ps ++ [p0], Blk w' p.2 60 (tmC p.1.terms).toArray := fun p hp => by
    rcases List.mem_append.1 hp with hp | hp
    · exact (h.terms p hp).grown hg (own_ne_blk h.row (h.terms p hp) (by decide))
    · obtain rfl := List.mem_singleton.1 hp
      exact h0.grown hg (own_ne_blk h.row h0 (by decide))
  refine ⟨?_, ?_, ?_, fun p hp => (ht p hp).far (p := ⟨g9, 2, none⟩) (blk_ne (ht p hp) hv (by decide)) _, hE.setCell (p := ⟨g9, 2, none⟩) hg9 _⟩
  · have h1 := hv.set_ 2 (.slice B' (ps.length + 1) d')
    simpa [List.length_append] using h1
  · exact mine_set (mine_other h.head h.row (by decide) hg) hv (by decide) 2 _
  · rw [List.length_append, List.length_singleton, List.flatMap_append, List.flatMap_singleton]
    exact mine_set ho hv (by decide) 2 _
theorem BothM.fr {gt : Nat} {cs : Array Value} (h : BothM W w g9 nm hd A c ps B d) (hb : Blk w gt 60 cs) (hF : Fr (fun g => g = gt) w w') (hne : ∀ p ∈ ps, p.2 ≠ gt) (hgt : W.heap.size ≤ gt) : BothM W w' g9 nm hd A c ps B d :=
  ⟨h.var.fr hF (fun e => blk_ne h.var hb (by decide) e), own_fr h.head hF (fun g hg e => own_ne_blk h.head hb (by decide) (by rw [hg, show g = gt from e])), own_fr h.row hF (fun g hg e => own_ne_blk h.row hb (by decide) (by rw [hg, show g = gt from e])),
    fun p hp => (h.terms p hp).fr hF (hne p hp), ((Fr.of_ext h.ext).trans hF).out fun g hg => by have hg : g = gt := hg; omega⟩
theorem BothM.qat (h : BothM W w g9 nm hd A c ps B d) : QAt w ⟨A, hd.length, c, B, ps.length, d⟩ ⟨nm, hd, ps.map (·.1)⟩ := by
  refine ⟨LAt.own rfl (strC_els w hd) h.head, ?_, own_le h.head⟩
  have h9 := els_atoms (els_cp ps h.terms)
  exact LAt.own (by simp) h9 h.row
end
/-- the copy whose atoms are renamed one by one -/
structure YM (W w : World) (ps : List (Atm × Nat)) (i : Nat) (B : Option Addr) (d : Nat) : Prop where
  row : w.ownsRow W.heap.size 40 2 (.slice B ps.length d) ps.length (ps.flatMap cpC)
  terms : ∀ (k : Nat) (p : Atm × Nat), i ≤ k → ps[k]? = some p → Blk w p.2 60 (tmC p.1.terms).toArray
  pw : (ps.map (·.2)).Pairwise (· < ·)
  ge : ∀ p ∈ ps, W.heap.size ≤ p.2
section
variable {W w w' : World} {ps : List (Atm × Nat)} {i : Nat} {B : Option Addr} {d : Nat}
theorem YM.go (h : YM W w ps i B d) (hw : Ext w w') : YM W w' ps i B d := ⟨mine_ext h.row hw, fun k p hk hp => (h.terms k p hk hp).ext hw, h.pw, h.ge⟩
theorem YM.start {L : QLoc} {q : Qy} (h : Copied W w L q) : ∃ ps, ps.map (·.1) = q.atoms ∧ L.m = ps.length ∧ YM W w ps 0 L.B L.d := by
  obtain ⟨ps, cells, k1, k2, k3, k4, k5, k6⟩ := h.atoms
  obtain ⟨rfl, h11⟩ := els_cp_inv k2
  rw [k3] at k4
  exact ⟨ps, k1, k3, k4, fun k p _ hp => h11 p (List.mem_of_getElem? hp), k6, k5⟩
theorem YM.fr {p : Atm × Nat} {cs : Array Value} (h : YM W w ps i B d) (hp : ps[i]? = some p) (hb : Blk w p.2 60 cs) (hF : Fr (fun g => g = p.2) w w') : YM W w' ps (i + 1) B d :=
  ⟨own_fr h.row hF (fun g hg e => own_ne_blk h.row hb (by decide) (by rw [hg, show g = p.2 from e])), fun k p' hk hp' => (h.terms k p' (by omega) hp').fr hF (pw_ne h.pw hp hp' (by omega)), h.pw, h.ge⟩
theorem YM.grown {b9 m9 : Nat} {v9 : Value} {x9 : List Value} (h : YM W w ps i B d) (ho : w.ownsRow b9 40 2 v9 m9 x9) (hg : w.grownBy w' v9.ownBlock) (hne : ∀ g, v9.ownBlock = some g → (Value.slice B ps.length d).ownBlock ≠ some g) : YM W w' ps i B d := by
  refine ⟨h.row.kept hg ?_, fun k p hk hp => (h.terms k p hk hp).grown hg (own_ne_blk ho (h.terms k p hk hp) (by decide)), h.pw, h.ge⟩
  cases hv : v9.ownBlock with
  | none =>
    cases hb : (Value.slice B ps.length d).ownBlock with
    | none => exact .inl rfl
    | some k => exact .inr (by simp)
  | some g => exact .inr (hne g hv)
theorem YM.set {g9 j : Nat} {cs : Array Value} {u : Value} (h : YM W w ps i B d) (hb : Blk w g9 25 cs) : YM W (w.setCell ⟨g9, j, none⟩ u) ps i B d :=
  ⟨mine_set h.row hb (by decide) j u, fun k p hk hp => (h.terms k p hk hp).far (p := ⟨g9, j, none⟩) (blk_ne (h.terms k p hk hp) hb (by decide)) u, h.pw, h.ge⟩
theorem YM.at_ {p : Atm × Nat} (h : YM W w ps i B d) (hp : ps[i]? = some p) : ∃ b, B = some ⟨b, 0, none⟩ ∧ w.cell? ⟨b, i * 2, none⟩ = some (.string p.1.rel) ∧ w.cell? ⟨b, i * 2 + 1, none⟩ = some (.slice (some ⟨p.2, 0, none⟩) p.1.terms.length p.1.terms.length) := by
  have hi := (List.getElem?_eq_some_iff.1 hp).1
  obtain ⟨b, hB, hb, hlt, hcell, -⟩ := own_two h.row hi
  obtain ⟨cs, e1, e2, e3, e5⟩ := (els_flat_cp w ps).get hp
  have e3 : cs = cpC p := e3
  subst e3
  exact ⟨b, hB, (hcell 0 (by omega)).trans (e5 0 (by omega)), (hcell 1 (by omega)).trans (e5 1 (by omega))⟩
end
def wP (p : Atm × Nat) : Atm × Nat := (wA p.1, p.2)
/-- two rows in unlike blocks -/
def Sep (B B' : Option Addr) : Prop := ∀ a b, B = some a → B' = some b → a.block ≠ b.block
theorem Sep.own {B B' : Option Addr} {n d n' d' : Nat} (h : Sep B B') : ∀ g, (Value.slice B n d).ownBlock = some g → (Value.slice B' n' d').ownBlock ≠ some g := fun g hg e => by
  cases B with
  | none => simp [Value.ownBlock] at hg
  | some a =>
    cases B' with
    | none => simp [Value.ownBlock] at e
    | some b =>
      simp only [Value.ownBlock, Option.some.injEq] at hg e
      exact h a b rfl rfl (hg.trans e.symm)
theorem Sep.grow {B B1 B' : Option Addr} {n d n1 d1 x : Nat} (h : Sep B B') (hl : (Value.slice B1 n1 d1).ownBlock = (Value.slice B n d).ownBlock ∨ (Value.slice B1 n1 d1).ownBlock = some x) (hx : ∀ b, B' = some b → b.block < x) : Sep B1 B' := fun a b ha hb => by
  subst ha
  rcases hl with hl | hl
  · cases B with
    | none => simp [Value.ownBlock] at hl
    | some a0 =>
      simp only [Value.ownBlock, Option.some.injEq] at hl
      rw [hl]
      exact h a0 b rfl hb
  · simp only [Value.ownBlock, Option.some.injEq] at hl
    have := hx b hb
    omega
theorem Sep.start {w1 w2 : World} {b1 b2 : Nat} {e1 e2 : TypeId} {s1 s2 n1 n2 d1 d2 : Nat} {B B' : Option Addr} {x1 x2 : List Value} (h1 : w1.ownsRow b1 e1 s1 (.slice B n1 d1) n1 x1) (h2 : w2.ownsRow b2 e2 s2 (.slice B' n2 d2) n2 x2) (hb : w1.heap.size ≤ b2) : Sep B B' := fun a b ha hb' => by
  subst ha; subst hb'
  have g1 := (h1.lt a.block rfl).2
  have g2 := (h2.lt b.block rfl).1
  omega
theorem own_low {w : World} {b1 : Nat} {e1 : TypeId} {s1 n1 d1 : Nat} {B : Option Addr} {x1 : List Value} (h1 : w.ownsRow b1 e1 s1 (.slice B n1 d1) n1 x1) : ∀ b, B = some b → b.block < w.heap.size := fun b hb => by
  subst hb
  exact (h1.lt b.block rfl).2
theorem cpC_w (p : Atm × Nat) : cpC (wA p.1, p.2) = cpC p := by simp [cpC, wA]
end Go.Proofs.Ytpfjkjmimmklcaa
