/-
  A store's memory: its parts, each in blocks of its own.
  A region that draws its order: a head that only reads, ONE operation that writes, a tail that hands its results on (in whatever order).
  store: fits, pack, key, slot, list: what is read.
  The calls of a store's parts, as steps of the whole.
  store: open, shut.
-/
import Derived.Test.YtahdiiaadjdmcaaArnR
import Derived.Test.YtahdiiaadjdmcaaGaB
import Derived.Test.YtahdiiaadjdmcaaGaE
import Derived.Test.YtahdiiaadjdmcaaGaC
import Derived.Test.YtahdiiaadjdmcaaGaD
import Derived.Test.YtahdiiaadjdmcaaGaG
import Derived.Test.YtahdiiaadjdmcaaGaH
import Derived.Test.YtahdiiaadjdmcaaGaI
import Derived.Test.YtahdiiaadjdmcaaCloneV
import Derived.Test.YtahdiiaadjdmcaaGround
namespace Go.Proofs.Ytahdiiaadjdmcaa
open Go.RowKit
theorem bytC_b (k : List UInt8) : bytC k = bcells k := rfl
/-! an index stays while other blocks are written -/
theorem OwnKey.inB {w : World} {B : Nat → Prop} {K : Value} {k : List UInt8} (h : OwnKey w B K k) : ∀ A n c, K = .slice A n c → ∀ a, A = some a → B a.block := by
  obtain ⟨A, n, c, rfl, _, h3⟩ := h
  rintro A' n' c' he a ha
  injection he with he
  subst he
  exact h3 a ha
theorem IxAt.far {w w' : World} {B C : Nat → Prop} {x tb most size marks probes : Nat} {T : List Pl} {Ks : List Value} (h : IxAt w B x tb most size marks probes T Ks) (hc : Chg C w w') (hd : ∀ g, B g → ¬ C g) : IxAt w' B x tb most size marks probes T Ks :=
  ⟨hc.blk h.blk (hd _ h.inB), ⟨hc.blk h.tab.blk (hd _ h.tab.inB), h.tab.len, fun i p K h1 h2 => (h.tab.keys i p K h1 h2).keep hc fun A n c e a ha => hd _ ((h.tab.keys i p K h1 h2).inB A n c e a ha), h.tab.inB⟩, h.pow, h.inB⟩
theorem HIx.far {w w' : World} {B C : Nat → Prop} {x most probes : Nat} {E : List (List UInt8 × Int)} (h : HIx w B x most probes E) (hc : Chg C w w') (hd : ∀ g, B g → ¬ C g) : HIx w' B x most probes E := by
  obtain ⟨tb, T, Ks, hI, hr⟩ := h.at_
  exact ⟨⟨tb, T, Ks, hI.far hc hd, hr⟩, h.most, fun b hb => Nat.lt_of_lt_of_le (h.old b hb) hc.size⟩

theorem HIx.mono {w : World} {B C : Nat → Prop} {x most probes : Nat} {E : List (List UInt8 × Int)} (h : HIx w B x most probes E) (hC : ∀ g, B g → C g) (hl : ∀ g, C g → g < w.heap.size) : HIx w C x most probes E := by
  obtain ⟨tb, T, Ks, h1, h2⟩ := h.at_
  exact ⟨⟨tb, T, Ks, ⟨h1.blk, ⟨h1.tab.blk, h1.tab.len, fun i p K h3 h4 => (h1.tab.keys i p K h3 h4).mono hC, hC _ h1.tab.inB⟩, h1.pow, hC _ h1.inB⟩, h2⟩, h.most, hl⟩
theorem HCh.mono {w : World} {B C : Nat → Prop} {x cells lists : Nat} {cont : Nat → List Nat} (h : HCh w B x cells lists cont) (hC : ∀ g, B g → C g) (hl : ∀ g, C g → g < w.heap.size) : HCh w C x cells lists cont := by
  obtain ⟨LA, cA, LE, cE, at_, en, h1, h2⟩ := h.mem
  exact ⟨⟨LA, cA, LE, cE, at_, en, h1.mono hC, h2⟩, hl, h.cm, h.lm⟩
theorem HArR.mono {w : World} {B C : Nat → Prop} {x most : Nat} {sl : List (Slt Value)} {free : List Nat} {live : Nat} (h : HArR w B x most sl free live) (hC : ∀ g, B g → C g) (hl : ∀ g, C g → g < w.heap.size) : HArR w C x most sl free live := by
  obtain ⟨SA, cS, FA, cF, h1⟩ := h.mem
  exact ⟨⟨SA, cS, FA, cF, h1.mono hC⟩, h.ok, hl, h.mm, h.gen⟩
theorem HArI.mono {w : World} {B C : Nat → Prop} {x most : Nat} {sl : List (Slt Value)} {free : List Nat} {live : Nat} (h : HArI w B x most sl free live) (hC : ∀ g, B g → C g) (hl : ∀ g, C g → g < w.heap.size) : HArI w C x most sl free live := by
  obtain ⟨SA, cS, FA, cF, h1⟩ := h.mem
  exact ⟨⟨SA, cS, FA, cF, h1.mono hC⟩, h.ok, hl, h.mm, h.gen⟩
theorem MapI.chg {w w' : World} {C : Nat → Prop} {b n : Nat} {σ : IMap} (h : MapI w b n σ) (hw : Chg C w w') (hb : ¬ C b) : MapI w' b n σ := h.block (hw.block b h.lt hb)

/-- a row that lies in the blocks B -/
def RowIn (w : World) (B : Nat → Prop) (A : Option Addr) (n : Nat) (r : List V) : Prop := RowAt w A n r ∧ ∀ a, A = some a → B a.block
theorem RowIn.mono {w : World} {B C : Nat → Prop} {A : Option Addr} {n : Nat} {r : List V} (h : RowIn w B A n r) (hC : ∀ g, B g → C g) : RowIn w C A n r := ⟨h.1, fun a ha => hC _ (h.2 a ha)⟩
theorem Sl.chg {w w' : World} {C : Nat → Prop} {A : Option Addr} {n size : Nat} {xs : List Value} (h : Sl w A n size xs) (hw : Chg C w w') (hA : ∀ a, A = some a → ¬ C a.block) : Sl w' A n size xs :=
  ⟨h.1, fun hn => by
    obtain ⟨b, off, e, hc⟩ := h.2 hn
    exact ⟨b, off, e, fun j u hu => hw.cell (hc j u hu) (show ¬ C b from hA _ e)⟩⟩
theorem RowIn.chg {w w' : World} {B C : Nat → Prop} {A : Option Addr} {n : Nat} {r : List V} (h : RowIn w B A n r) (hw : Chg C w w') (hC : ∀ g, B g → ¬ C g) : RowIn w' B A n r :=
  ⟨⟨h.1.1, h.1.2.chg hw fun a ha => hC _ (h.2 a ha)⟩, h.2⟩
def NumIn (w : World) (B : Nat → Prop) (A : Option Addr) (n : Nat) (xs : List Int) : Prop := NumAt w A n xs ∧ ∀ a, A = some a → B a.block
theorem NumIn.mono {w : World} {B C : Nat → Prop} {A : Option Addr} {n : Nat} {r : List Int} (h : NumIn w B A n r) (hC : ∀ g, B g → C g) : NumIn w C A n r := ⟨h.1, fun a ha => hC _ (h.2 a ha)⟩
theorem NumIn.chg {w w' : World} {B C : Nat → Prop} {A : Option Addr} {n : Nat} {r : List Int} (h : NumIn w B A n r) (hw : Chg C w w') (hC : ∀ g, B g → ¬ C g) : NumIn w' B A n r :=
  ⟨⟨h.1.1, h.1.2.chg hw fun a ha => hC _ (h.2 a ha)⟩, h.2⟩
/-- the groupings: a row of rows of numbers, in the blocks B -/
def GrpAt (w : World) (B : Nat → Prop) (A : Option Addr) (n : Nat) (gs : List (List Nat)) : Prop :=
  n = gs.length ∧ (∀ a, A = some a → B a.block) ∧ ∃ vs : List Value, Sl w A n 1 vs ∧ ∀ (k : Nat) (g : List Nat), gs[k]? = some g → ∃ Ak ck, vs[k]? = some (.slice Ak g.length ck) ∧ NumIn w B Ak g.length (g.map Int.ofNat)
theorem GrpAt.mono {w : World} {B C : Nat → Prop} {A : Option Addr} {n : Nat} {gs : List (List Nat)} (h : GrpAt w B A n gs) (hC : ∀ g, B g → C g) : GrpAt w C A n gs := by
  obtain ⟨h1, h2, vs, h3, h4⟩ := h
  refine ⟨h1, fun a ha => hC _ (h2 a ha), vs, h3, fun k g hg => ?_⟩
  obtain ⟨Ak, ck, h5, h6⟩ := h4 k g hg
  exact ⟨Ak, ck, h5, h6.mono hC⟩
theorem GrpAt.chg {w w' : World} {B C : Nat → Prop} {A : Option Addr} {n : Nat} {gs : List (List Nat)} (h : GrpAt w B A n gs) (hw : Chg C w w') (hC : ∀ g, B g → ¬ C g) : GrpAt w' B A n gs := by
  obtain ⟨h1, h2, vs, h3, h4⟩ := h
  refine ⟨h1, h2, vs, h3.chg hw fun a ha => hC _ (h2 a ha), fun k g hg => ?_⟩
  obtain ⟨Ak, ck, h5, h6⟩ := h4 k g hg
  exact ⟨Ak, ck, h5, h6.chg hw hC⟩

/-- what a rollback will undo: a Put of this row, a Drop of this row from ahead of these slots; where the closure keeps them -/
inductive Und where
  | put (r : List V) (A : Option Addr) (n c : Nat)
  | drop (r : List V) (A : Option Addr) (n c : Nat) (ah : List Int) (H : Option Addr) (m d : Nat)
/-- a closure that undoes it; the boxes that it holds lie in the blocks B -/
def UndAt (w : World) (B : Nat → Prop) (x : Nat) (u : Value) : Und → Prop
  | .put r A n c => ∃ sb kb, u = .func (.func 78) #[] #[.pointer (some ⟨sb, 0, none⟩), .pointer (some ⟨kb, 0, none⟩)] ∧ Blk w sb 65 #[.pointer (some ⟨x, 0, none⟩)] ∧ B sb ∧ Blk w kb 62 #[.slice A n c] ∧ B kb ∧ RowIn w B A n r
  | .drop r A n c ah H m d => ∃ sb kb hb, u = .func (.func 999999) #[] #[.pointer (some ⟨sb, 0, none⟩), .pointer (some ⟨kb, 0, none⟩), .pointer (some ⟨hb, 0, none⟩)] ∧ Blk w sb 65 #[.pointer (some ⟨x, 0, none⟩)] ∧ B sb ∧ Blk w kb 62 #[.slice A n c] ∧ B kb ∧ RowIn w B A n r ∧ Blk w hb 23 #[.slice H m d] ∧ B hb ∧ NumIn w B H m ah
theorem UndAt.mono {w : World} {B C : Nat → Prop} {x : Nat} {u : Value} (hC : ∀ g, B g → C g) : ∀ {z : Und}, UndAt w B x u z → UndAt w C x u z
  | .put _ _ _ _, ⟨sb, kb, h1, h2, h3, h4, h5, h6⟩ => ⟨sb, kb, h1, h2, hC _ h3, h4, hC _ h5, h6.mono hC⟩
  | .drop _ _ _ _ _ _ _ _, ⟨sb, kb, hb, h1, h2, h3, h4, h5, h6, h7, h8, h9⟩ => ⟨sb, kb, hb, h1, h2, hC _ h3, h4, hC _ h5, h6.mono hC, h7, hC _ h8, h9.mono hC⟩
theorem UndAt.chg {w w' : World} {B C : Nat → Prop} {x : Nat} {u : Value} (hw : Chg C w w') (hC : ∀ g, B g → ¬ C g) : ∀ {z : Und}, UndAt w B x u z → UndAt w' B x u z
  | .put _ _ _ _, ⟨sb, kb, h1, h2, h3, h4, h5, h6⟩ => ⟨sb, kb, h1, hw.blk h2 (hC _ h3), h3, hw.blk h4 (hC _ h5), h5, h6.chg hw hC⟩
  | .drop _ _ _ _ _ _ _ _, ⟨sb, kb, hb, h1, h2, h3, h4, h5, h6, h7, h8, h9⟩ => ⟨sb, kb, hb, h1, hw.blk h2 (hC _ h3), h3, hw.blk h4 (hC _ h5), h5, h6.chg hw hC, hw.blk h7 (hC _ h8), h8, h9.chg hw hC⟩

abbrev Ents : Type := List (List UInt8 × Int)
/-- what stands in a store's memory -/
structure StV where
  x : Nat
  width : Nat
  most : Nat
  gs : List (List Nat)
  GA : Option Addr
  cG : Nat
  xs : Nat
  sl : List (Slt Value)
  fr : List Nat
  lv : Nat
  rm : Nat
  refs : IMap
  xw : Nat
  E : Ents
  gA : Option Addr
  gC : Nat
  gx : List Nat
  G : Nat → Ents
  xl : Nat
  sL : List (Slt Value)
  fL : List Nat
  lL : Nat
  lm : Nat
  lrefs : IMap
  xo : Nat
  cont : Nat → List Nat
  marked : Bool
  uA : Option Addr
  uC : Nat
  un : List Value
  P : List (Nat × List V)
  U : List Und
  K : Nat
def StV.L (v : StV) : Nat := v.gs.length + 1
def ptrC (l : List Nat) : List Value := l.map fun x => .pointer (some ⟨x, 0, none⟩)
def StV.cells (v : StV) : Array Value := #[.int .i64 v.width, .int .i64 v.most, .int .i64 v.L, .slice v.GA v.gs.length v.cG, .pointer (some ⟨v.xs, 0, none⟩), .map (some v.rm), .pointer (some ⟨v.xw, 0, none⟩), .slice v.gA v.gx.length v.gC, .pointer (some ⟨v.xl, 0, none⟩), .map (some v.lm), .pointer (some ⟨v.xo, 0, none⟩), .bool v.marked, .slice v.uA v.un.length v.uC]
/-- the store's parts, each in blocks B of its own -/
def part (w : World) (B : Nat → Prop) (v : StV) : Nat → Prop
  | 0 => Blk w v.x 91 v.cells ∧ B v.x ∧ OwnH w B 85 1 v.gx.length (.slice v.gA v.gx.length v.gC) (ptrC v.gx) ∧ OwnH w B 1 1 v.un.length (.slice v.uA v.un.length v.uC) v.un
  | 1 => GrpAt w B v.GA v.gs.length v.gs
  | 2 => HArR w B v.xs v.most v.sl v.fr v.lv
  | 3 => B v.rm ∧ ∃ n, n ≤ v.K ∧ MapI w v.rm n v.refs
  | 4 => ∃ p, p ≤ v.K ∧ HIx w B v.xw v.most p v.E
  | 5 => HArI w B v.xl (v.most * v.L) v.sL v.fL v.lL
  | 6 => B v.lm ∧ ∃ n, n ≤ v.K ∧ MapI w v.lm n v.lrefs
  | 7 => HCh w B v.xo (v.most * v.L) (v.most * v.L + 1) v.cont
  | 8 => (∀ i r, (i, r) ∈ v.P → ∃ A n c, thg v.sl i = some (.slice A n c) ∧ RowIn w B A n r) ∧ v.U.length = v.un.length ∧ ∀ (i : Nat) (u : Value) (z : Und), v.un[i]? = some u → v.U[i]? = some z → UndAt w B v.x u z
  | 9 => v.gx.length = v.gs.length
  | k + 10 => ∀ xk, v.gx[k]? = some xk → ∃ p, p ≤ v.K ∧ HIx w B xk v.most p (v.G k)
theorem part_chg {w w' : World} {B C : Nat → Prop} {v : StV} (hw : Chg C w w') (hC : ∀ g, B g → ¬ C g) : ∀ i, part w B v i → part w' B v i
  | 0, h => ⟨hw.blk h.1 (hC _ h.2.1), h.2.1, h.2.2.1.chg hw hC, h.2.2.2.chg hw hC⟩
  | 1, h => GrpAt.chg h hw hC
  | 2, h => HArR.chg h hw hC
  | 3, ⟨h1, n, h2, h3⟩ => ⟨h1, n, h2, h3.chg hw (hC _ h1)⟩
  | 4, ⟨p, h1, h2⟩ => ⟨p, h1, h2.far hw hC⟩
  | 5, h => HArI.chg h hw hC
  | 6, ⟨h1, n, h2, h3⟩ => ⟨h1, n, h2, h3.chg hw (hC _ h1)⟩
  | 7, h => HCh.chg h hw hC
  | 8, ⟨h, h9, h8⟩ => ⟨fun i r hi => by
    obtain ⟨A, n, c, h1, h2⟩ := h i r hi
    exact ⟨A, n, c, h1, h2.chg hw hC⟩, h9, fun i u z h1 h2 => (h8 i u z h1 h2).chg hw hC⟩
  | 9, h => h
  | _ + 10, h => fun xk hk => by
    obtain ⟨p, h1, h2⟩ := h xk hk
    exact ⟨p, h1, h2.far hw hC⟩
theorem part_mono {w : World} {B C : Nat → Prop} {v : StV} (hC : ∀ g, B g → C g) (hl : ∀ g, C g → g < w.heap.size) : ∀ i, part w B v i → part w C v i
  | 0, h => ⟨h.1, hC _ h.2.1, h.2.2.1.mono hC, h.2.2.2.mono hC⟩
  | 1, h => GrpAt.mono h hC
  | 2, h => HArR.mono h hC hl
  | 3, ⟨h1, h2⟩ => ⟨hC _ h1, h2⟩
  | 4, ⟨p, h1, h2⟩ => ⟨p, h1, h2.mono hC hl⟩
  | 5, h => HArI.mono h hC hl
  | 6, ⟨h1, h2⟩ => ⟨hC _ h1, h2⟩
  | 7, h => HCh.mono h hC hl
  | 8, ⟨h, h9, h8⟩ => ⟨fun i r hi => by
    obtain ⟨A, n, c, h1, h2⟩ := h i r hi
    exact ⟨A, n, c, h1, h2.mono hC⟩, h9, fun i u z h1 h2 => (h8 i u z h1 h2).mono hC⟩
  | 9, h => h
  | _ + 10, h => fun xk hk => by
    obtain ⟨p, h1, h2⟩ := h xk hk
    exact ⟨p, h1, h2.mono hC hl⟩
/-- a block's part -/
abbrev Lab : Type := Nat → Option Nat
def Lab.own (lab : Lab) (i : Nat) : Nat → Prop := fun b => lab b = some i
def Lab.dom (lab : Lab) : Nat → Prop := fun b => ∃ i, lab b = some i
open Classical in
/-- part j has other blocks -/
noncomputable def Lab.grow (lab : Lab) (n j : Nat) (B : Nat → Prop) : Lab := fun b => if b < n then lab b else if B b then some j else none
structure StM (w : World) (lab : Lab) (v : StV) : Prop where
  lt : ∀ b i, lab b = some i → b < w.heap.size
  part : ∀ i, part w (lab.own i) v i
theorem StM.chg {w w' : World} {C : Nat → Prop} {lab : Lab} {v : StV} (h : StM w lab v) (hw : Chg C w w') (hC : ∀ g, lab.dom g → ¬ C g) : StM w' lab v :=
  ⟨fun b i hb => Nat.lt_of_lt_of_le (h.lt b i hb) hw.size, fun i => part_chg hw (fun g hg => hC g ⟨i, hg⟩) i (h.part i)⟩
theorem StM.ext {w w' : World} {lab : Lab} {v : StV} (h : StM w lab v) (hw : Ext w w') : StM w' lab v := h.chg (C := fun _ => False) (Chg.of hw) fun _ _ x => x
/-- what a call leaves of a store -/
def StR (w : World) (lab : Lab) (w' : World) (v' : StV) : Prop := ∃ lab', StM w' lab' v' ∧ (∀ b, lab'.dom b → lab.dom b ∨ w.heap.size ≤ b) ∧ Chg lab.dom w w'
theorem StR.refl {w : World} {lab : Lab} {v : StV} (h : StM w lab v) : StR w lab w v := ⟨lab, h, fun _ hb => .inl hb, Chg.refl _ _⟩
theorem StR.trans {w w1 w2 : World} {lab lab1 : Lab} {v2 : StV} (h : StR w1 lab1 w2 v2) (hs : ∀ b, lab1.dom b → lab.dom b ∨ w.heap.size ≤ b) (hc : Chg lab.dom w w1) : StR w lab w2 v2 := by
  obtain ⟨lab2, h1, h2, h3⟩ := h
  refine ⟨lab2, h1, fun b hb => ?_, hc.trans h3 fun g hg hl => (hs g hg).resolve_right (by omega)⟩
  rcases h2 b hb with h4 | h4
  · exact hs b h4
  · exact .inr (Nat.le_trans hc.size h4)
/-- one part is another one behind a call -/
theorem StM.chg1 {w w' : World} {lab : Lab} {v v' : StV} (h : StM w lab v) (j : Nat) {B' : Nat → Prop} (hB : ∀ b, B' b → lab.own j b ∨ w.heap.size ≤ b) (hl : ∀ b, B' b → b < w'.heap.size) (hC : Chg (lab.own j) w w')
    (hs : ∀ i, i ≠ j → Proofs.Ytahdiiaadjdmcaa.part w' (lab.own i) v i → Proofs.Ytahdiiaadjdmcaa.part w' (lab.own i) v' i) (hp : Proofs.Ytahdiiaadjdmcaa.part w' B' v' j) : StR w lab w' v' := by
  have hlt : ∀ b i, lab.grow w.heap.size j B' b = some i → b < w'.heap.size := fun b i hb => by
    unfold Lab.grow at hb
    split at hb
    · have := hC.size; omega
    · split at hb
      · exact hl b (by assumption)
      · cases hb
  refine ⟨lab.grow w.heap.size j B', ⟨hlt, fun i => ?_⟩, fun b hb => ?_, hC.mono fun g hg _ => ⟨j, hg⟩⟩
  · by_cases hi : i = j
    · subst hi
      refine part_mono (fun b hb => ?_) (fun b hb => hlt b _ hb) i hp
      show lab.grow w.heap.size i B' b = some i
      unfold Lab.grow
      rcases hB b hb with h1 | h1
      · rw [if_pos (h.lt b _ h1)]; exact h1
      · rw [if_neg (by omega), if_pos hb]
    · have e : (lab.grow w.heap.size j B').own i = lab.own i := by
        funext b
        unfold Lab.own Lab.grow
        apply propext
        split
        · exact Iff.rfl
        · split
          · constructor
            · intro h1; injection h1 with h1; exact absurd h1.symm hi
            · intro h1; have := h.lt b _ h1; omega
          · constructor
            · intro h1; cases h1
            · intro h1; have := h.lt b _ h1; omega
      rw [e]
      exact hs i hi (part_chg hC (fun g hg hg2 => hi (by
        have h1 : some i = some j := hg.symm.trans hg2
        injection h1)) i (h.part i))
  · obtain ⟨i, hi⟩ := hb
    unfold Lab.grow at hi
    split at hi
    · exact .inl ⟨i, hi⟩
    · right; omega
end Go.Proofs.Ytahdiiaadjdmcaa

namespace Go.Proofs.Ytahdiiaadjdmcaa
open Go.RowKit

/-- the value of an operation that asks the world nothing -/
def valOf (a : Act) (o : Oper) : Option Value :=
  match o.op with
  | .move x => some (a.eval x)
  | .assign x => some (a.eval x)
  | .extract t i => match a.eval t with
    | .tuple vs => vs[i]?
    | _ => none
  | _ => none
def wpW (Q : Exit → Act → World → Prop) : List Oper → Act → World → Prop
  | [], a, w => Q .normal a w
  | o :: l, a, w => ∃ v, valOf a o = some v ∧ wpW Q l (a.put o.dst v) w
/-- behind the operation that writes -/
def exW (Q : Exit → Act → World → Prop) (l : List Oper) : Exit → Act → World → Prop
  | .normal, a, w => wpW Q l a w
  | .panic c, a, w => Q (.panic c) a w
  | e, a, w => Q e a w
def tailB (md : Region.Mode) (ops : Array Oper) (n : Nat) : Bool := (List.range ops.size).all fun t => decide (t ≤ n) || (List.range t).any fun j => decide (n ≤ j) && Region.waitsFor md ops t j
def lexHeadE (md : Region.Mode) (ops : Array Oper) (E : Array Bool → Bool) : Nat → Nat → Array Bool → Bool
  | 0, _, listed => E listed
  | f + 1, k, listed => (Region.ready md ops listed).contains k && Region.free md ops listed k && lexHeadE md ops E f (k + 1) (listed.setIfInBounds k true)
def freeTail (md : Region.Mode) (ops : Array Oper) : Nat → Nat → Array Bool → Bool
  | 0, _, listed => (Region.ready md ops listed).isEmpty
  | f + 1, k, listed => (Region.ready md ops listed).contains k && Region.free md ops listed k && freeTail md ops f (k + 1) (listed.setIfInBounds k true)
def endE (md : Region.Mode) (ops : Array Oper) (n : Nat) (listed : Array Bool) : Bool := decide (Region.ready md ops listed = [n]) && freeTail md ops (ops.size - (n + 1)) (n + 1) (listed.setIfInBounds n true)
def extW (ops : Array Oper) (n : Nat) : Bool :=
  decide (n < ops.size) && Region.sinkB .any ops n && tailB .any ops n && Region.noSelect ops && (ops.all fun o => o.guard.isNone) && lexHeadE .any ops (endE .any ops n) n 0 (Array.replicate ops.size false)
section
variable {md : Region.Mode} {ops : Array Oper}
theorem tail_waitsW {n : Nat} {listed : Array Bool} (hs : Region.sinkB md ops n = true) (hc : tailB md ops n = true) (hn : n < ops.size) (inv : HeadInv md ops n listed) :
    ∀ (d i : Nat), n - i = d → i < n → listed.getD i true = false → ∀ t, n ≤ t → t ∉ Region.ready md ops listed := by
  intro d
  induction d using Nat.strongRecOn with
  | _ d ih =>
    intro i hd hi hun t ht hr
    obtain ⟨_, ot, hot, hall⟩ := mem_ready.1 hr
    have htlt : t < ops.size := (Array.getElem?_eq_some_iff.1 hot).1
    by_cases htn : t = n
    · subst htn
      have h1 := List.all_eq_true.1 hs i (List.mem_range.2 hi)
      obtain ⟨j, hj, hj2⟩ := List.any_eq_true.1 h1
      simp only [Bool.and_eq_true, decide_eq_true_eq] at hj2
      obtain ⟨oj, hoj, e, he, hb, hon⟩ := Region.waitsFor_spec hj2.2
      have hjle : j ≤ t := by have := List.mem_range.1 hj; omega
      by_cases hjt : j = t
      · subst hjt
        have : oj = ot := Option.some.inj (hoj.symm.trans hot)
        subst this
        have h2 := hall e he hb
        rw [hon, getD_both hun] at h2
        cases h2
      · cases hl : listed.getD j false with
        | true =>
          have h2 := inv.closed j oj hoj hl e he hb
          rw [hon, getD_both hun] at h2
          cases h2
        | false =>
          have hjs : j < listed.size := by rw [inv.size]; omega
          exact ih (t - j) (by omega) j rfl (by omega) (getD_in hjs hl) t (Nat.le_refl _) hr
    · have h1 := List.all_eq_true.1 hc t (List.mem_range.2 htlt)
      simp only [Bool.or_eq_true, decide_eq_true_eq] at h1
      rcases h1 with h1 | h1
      · omega
      · obtain ⟨j, hj, hj2⟩ := List.any_eq_true.1 h1
        simp only [Bool.and_eq_true, decide_eq_true_eq] at hj2
        obtain ⟨o', ho', e, he, hb, hon⟩ := Region.waitsFor_spec hj2.2
        have : o' = ot := Option.some.inj (ho'.symm.trans hot)
        subst this
        have h2 := hall e he hb
        rw [hon, getD_both (inv.tail j hj2.1 (by have := List.mem_range.1 hj; omega))] at h2
        cases h2
end
section
variable {P : Program} {ops : Array Oper} {md : Region.Mode} {w0 : World} {n : Nat} {ds : List Deferred} {Q : Exit → Act → World → Prop}
theorem yields_of_val {o : Oper} {a : Act} {v : Value} (hg : o.guard.isNone = true) (h : valOf a o = some v) : Yields P ops o v a := by
  have hg' : o.guard = none := by cases h1 : o.guard with | none => rfl | some _ => rw [h1] at hg; cases hg
  refine .inl ⟨by simp [Region.wanted, hg'], fun w => ?_⟩
  unfold valOf at h
  cases ho : o.op <;> rw [ho] at h <;> simp only [reduceCtorEq, Option.some.injEq] at h
  case move x => subst h; simp [execOp, ho]
  case assign x => subst h; simp [execOp, ho]
  case extract t i =>
    cases hv : a.eval t <;> rw [hv] at h <;> simp only [reduceCtorEq] at h
    case tuple vs => simp [execOp, ho, hv, Instr.extract, h]
theorem wpAny_of_W (hQ : ∀ c (d : Tmp) v (a : Act) w, Q (.panic c) (a.put (some d) v) w → Q (.panic c) a w) (hns : Region.noSelect ops = true) (hgd : (ops.all fun o => o.guard.isNone) = true) :
    ∀ (l : List Oper) (k : Nat) (listed : Array Bool) (a : Act) (w : World), (∀ j, l[j]? = ops[k + j]?) → freeTail md ops l.length k listed = true → wpW Q l a w → wpAny P md ops Q l.length listed a w
  | [], _, _, _, _, _, hB, h => ⟨by simpa [freeTail] using hB, h⟩
  | o :: l, k, listed, a, w, hl, hB, ⟨v, hv, h⟩ => by
    have h0 : ops[k]? = some o := by simpa using (hl 0).symm
    simp only [List.length_cons, freeTail, Bool.and_eq_true] at hB
    obtain ⟨⟨hr, hf⟩, hB'⟩ := hB
    have hg : o.guard.isNone = true := by
      have := Array.all_eq_true_iff_forall_mem.1 hgd o (Array.mem_of_getElem? h0)
      exact this
    exact wpAny_take h0 hns hf hr (fun c a w => by cases o.dst with | none => exact id | some d => exact hQ c d v a w) (yields_of_val hg hv) (wpAny_of_W hQ hns hgd l (k + 1) _ _ w (fun j => by have := hl (j + 1); simpa [Nat.add_assoc, Nat.add_comm 1 j] using this) hB' h)
theorem wpAnyE_lexE {E : Array Bool → Bool} {Lq : (Tmp → AV) → Prop} (hE : ∀ listed, E listed = true → ∀ j ∈ Region.ready md ops listed, n ≤ j) (hT : ∀ i, i < n → ∀ listed, HeadInv md ops n listed → listed.getD i true = false → ∀ t, n ≤ t → t ∉ Region.ready md ops listed) :
    ∀ (l : List Oper) (k : Nat) (listed : Array Bool) (S : Tmp → AV), (∀ j, j < l.length → l[j]? = ops[k + j]?) → k + l.length = n → HeadInv md ops n listed →
    lexHeadE md ops E l.length k listed = true → wpSem P ops w0 Lq l S →
    wpAnyE P md ops w0 n (fun listed' S' => E listed' = true ∧ Lq S') l.length listed S
  | [], k, listed, S, _, hk, _, hB, h => ⟨hB, h⟩
  | o :: l, k, listed, S, hl, hk, inv, hB, h => by
    have h0 : ops[k]? = some o := by simpa using (hl 0 (by simp)).symm
    simp only [List.length_cons, lexHeadE, Bool.and_eq_true] at hB
    obtain ⟨⟨hr, hf⟩, hB'⟩ := hB
    have hkn : k < n := by simp only [List.length_cons] at hk; omega
    have hr' : k ∈ Region.ready md ops listed := by simpa using hr
    obtain ⟨x, hy, hK⟩ := h
    exact wpAnyE_first h0 hkn (hT k hkn) (fun listed' S' hL => hE _ hL.1) l.length listed S inv (Region.free_spec h0 hf) hr' hy
      (wpAnyE_lexE hE hT l (k + 1) _ _ (fun j hj => by have := hl (j + 1) (by simp; omega); simpa [Nat.add_assoc, Nat.add_comm 1 j] using this) (by simp only [List.length_cons] at hk; omega) (inv.set hr' hkn) hB' hK)
theorem wp_exW {o : Oper} {a : Act} {w : World} {l : List Oper} (h : wpList P ops (exW Q l) [o] a w) {i : Nat} (hi : ops[i]? = some o) : wpOp P ops Q i (wpW Q l) a w := by
  unfold wpOp
  simp only [hi]
  unfold wpList at h
  split
  · rename_i hw
    rw [if_pos hw] at h
    exact h
  · rename_i hw
    rw [if_neg hw] at h
    exact h
theorem wp_region_extw {id : Nat} {a : Act} {w : World} {l : List Oper} (n : Nat) (hm : P.follows .mixedOrders = true) (hB : extW l.toArray n = true) (hd : dstsIn l.toArray a.tmps.size = true) (hQ : ∀ c (d : Tmp) v (a : Act) w, Q (.panic c) (a.put (some d) v) w → Q (.panic c) a w)
    (h : wpE P l.toArray w (fun a1 F => distinctB F = true ∧ (F.all fun x => x.1 < a.tmps.size) = true ∧ ∀ w', Ext w w' → EndQ w' F (fun a' => wpList P l.toArray (exW Q (l.drop (n + 1))) ((l.drop n).take 1) a' w') a1) (l.take n) a []) : (Code.region id l.toArray true).wp P Q a w := by
  simp only [extW, Bool.and_eq_true, decide_eq_true_eq] at hB
  obtain ⟨⟨⟨⟨⟨hn, hsk⟩, htl⟩, hns⟩, hgd⟩, hlex⟩ := hB
  have hnl : n < l.length := by simpa using hn
  have htk : (l.take n).length = n := by simp; omega
  have inv0 : HeadInv .any l.toArray n (Array.replicate l.toArray.size false) :=
    ⟨by simp, fun j oj _ hl => (by rw [getD_replicate_false] at hl; cases hl), fun t _ ht => getD_in (by simpa using ht) (getD_replicate_false _ _)⟩
  have hT : ∀ i, i < n → ∀ listed, HeadInv .any l.toArray n listed → listed.getD i true = false → ∀ t, n ≤ t → t ∉ Region.ready .any l.toArray listed :=
    fun i hi listed inv hun t ht => tail_waitsW hsk htl hn inv _ i rfl hi hun t ht
  have hfin : wpSem P l.toArray w (fun S => ∀ a' w', Ext w w' → Fits S a.tmps.size a.defers a' w' → wpList P l.toArray (exW Q (l.drop (n + 1))) ((l.drop n).take 1) a' w') (l.take n) (semOf a []) :=
    wpSem_of_wpE (ds := a.defers) (m := a.tmps.size) (fun a1 F hs1 hd1 hq a' w' hw' hf => by
      obtain ⟨hB1, hz, hq⟩ := hq
      refine EndQ_elim (a' := a') F hB1 (hq w' hw') (hf.1.trans hs1.symm) (hf.2.1.trans hd1.symm) (by rw [hs1]; exact hz) (fun t G hG => ?_) (fun t hn => ?_)
      · have hlt : t < a.tmps.size := by
          have := hz
          simp only [Facts.get, Option.map_eq_some_iff] at hG
          obtain ⟨x, hx, _⟩ := hG
          have h1 := List.find?_some hx
          have h2 := List.all_eq_true.1 hz x (List.mem_of_find?_eq_some hx)
          simp at h1 h2
          rw [← h1]; exact h2
        have := hf.2.2 t hlt
        rw [semOf_some hG] at this
        exact this
      · by_cases hlt : t < a.tmps.size
        · have := hf.2.2 t hlt
          rw [semOf_none hn] at this
          exact this
        · have h1 : a'.tmps.size ≤ t := by rw [hf.1]; exact Nat.le_of_not_lt hlt
          have h2 : a1.tmps.size ≤ t := by rw [hs1]; exact Nat.le_of_not_lt hlt
          simp [h1, h2]) _ a [] rfl rfl h
  have hE : ∀ listed, endE .any l.toArray n listed = true → ∀ j ∈ Region.ready .any l.toArray listed, n ≤ j := fun listed h1 j hj => by
    simp only [endE, Bool.and_eq_true, decide_eq_true_eq] at h1
    rw [h1.1] at hj
    have : j = n := by simpa using hj
    omega
  have H := wpAnyE_lexE (md := .any) hE hT (l.take n) 0 _ (semOf a []) (fun j hj => by
    have hj' : j < n := by rw [htk] at hj; exact hj
    simp [hj']) (by simpa using htk) inv0 (by rw [htk]; exact hlex) hfin
  refine wp_region_any hm ?_
  have hw1 : Ext w { w with drawn := w.drawn + 1 } := Ext.drew w
  obtain ⟨o, ho⟩ : ∃ o, l[n]? = some o := ⟨_, List.getElem?_eq_getElem hnl⟩
  have hdr : (l.drop n).take 1 = [o] := by
    rw [List.drop_eq_getElem_cons hnl]
    rw [List.getElem?_eq_getElem hnl] at ho
    simp at ho
    simp [ho]
  have := wpAny_of_ext (w0 := w) (ds := a.defers) (Q' := Q) (g := l.toArray.size - (n + 1) + 1) hd (fun listed S hL a' w' hw' hf => by
    have h1 := hL.1
    simp only [endE, Bool.and_eq_true, decide_eq_true_eq] at h1
    have h2 := hL.2 a' w' hw' hf
    rw [hdr] at h2
    refine ⟨fun h3 => (by rw [h1.1] at h3; cases h3), fun i hi => ?_⟩
    rw [h1.1] at hi
    have hin : i = n := by simpa using hi
    subst hin
    have h4 := wp_exW (i := i) h2 (by simpa using ho)
    refine wpOp_mono (fun a2 w2 h5 => ?_) h4
    have h6 := wpAny_of_W (P := P) (md := .any) (ops := l.toArray) hQ hns hgd (l.drop (i + 1)) (i + 1) (listed.setIfInBounds i true) a2 w2 (fun j => by simp [List.getElem?_drop]) (by simpa using h1.2) h5
    simpa using h6) _ _ (semOf a []) (fun t => by rw [semOf_none (by rfl)]; exact AV.stable_k _ _) H a _ hw1 ⟨rfl, rfl, fun t _ => by rw [semOf_none (by rfl)]; rfl⟩
  rw [htk, show n + (l.toArray.size - (n + 1) + 1) = l.toArray.size by omega] at this
  exact this
end
end Go.Proofs.Ytahdiiaadjdmcaa

namespace Go.Proofs.Ytahdiiaadjdmcaa
open Go.RowKit

theorem own_base0 {w : World} {b b' : Nat} {e : TypeId} {s n : Nat} {v : Value} {xs : List Value} (h : w.ownsRow b' e s v n xs) (hb : b ≤ b') : w.ownsRow b e s v n xs := by
  refine ⟨h.1, ?_⟩
  rcases h.2 with h1 | ⟨g, cap, cur, h1, h2, h3⟩
  · exact .inl h1
  · exact .inr ⟨g, cap, cur, h1, Nat.le_trans hb h2, h3⟩
theorem own_key {w : World} {base : Nat} {A : Option Addr} {n c : Nat} {k : List UInt8} (h : w.ownsRow base 5 1 (.slice A n c) n (bytC k)) : OwnKey w (fun b => base ≤ b) (.slice A n c) k := by
  refine ⟨A, n, c, rfl, own_base0 h (Nat.zero_le _), fun a ha => ?_⟩
  rcases h.2 with ⟨h1, _⟩ | ⟨g, cap, cur, h1, h2, _⟩
  · injection h1 with h1; rw [h1] at ha; cases ha
  · injection h1 with h1
    rw [h1] at ha
    injection ha with ha
    subst ha
    exact h2
theorem OwnKey.at_ {w : World} {B : Nat → Prop} {K : Value} {k : List UInt8} (h : OwnKey w B K k) : ∃ A n c, K = .slice A n c ∧ KeyAt w A n k ∧ ∀ a, A = some a → B a.block := by
  obtain ⟨A, n, c, rfl, h2, h3⟩ := h
  refine ⟨A, n, c, rfl, ?_, h3⟩
  rcases h2.2 with ⟨h4, h5⟩ | ⟨g, cap, cur, h4, -, h6, h7, h8, h9, h10⟩
  · have := h2.1
    injection h4 with h4
    subst h4; subst h5
    have hk : k = [] := by cases k with
      | nil => rfl
      | cons a l => simp [bytC] at this
    subst hk
    exact Sl.nil _ _ _
  · injection h4 with h4
    subst h4
    refine ⟨by have := h2.1; omega, fun hn => ⟨g, 0, rfl, fun j u hu => ?_⟩⟩
    have hb : Blk w g 5 cur := h6
    rw [Nat.zero_add, hb.cell]
    rw [← h10, List.getElem?_take] at hu
    split at hu
    · simpa using hu
    · cases hu

/-- a row's bytes -/
def pk (r : List V) : List UInt8 := (packRes r).1
def fitsR (width : Nat) (r : List V) : Bool := decide (r.length = width) && validR r
/-- a row that may be handed in -/
structure ArgR (w : World) (A : Option Addr) (n : Nat) (r : List V) : Prop where
  at_ : RowAt w A n r
  len : n ≤ 1048576
  small : smallR r
  wf : wfR r
theorem ArgR.ext {w w' : World} {A : Option Addr} {n : Nat} {r : List V} (h : ArgR w A n r) (hw : Ext w w') : ArgR w' A n r := ⟨h.at_.ext hw, h.len, h.small, h.wf⟩
theorem StM.str {w : World} {lab : Lab} {v : StV} (h : StM w lab v) : Blk w v.x 91 v.cells := (h.part 0).1

set_option maxRecDepth 100000 in
theorem fits_any {w : World} {lab : Lab} {v : StV} (h : StM w lab v) {r : List V} {A : Option Addr} {n : Nat} (c : Nat) (ha : ArgR w A n r) :
    Calls Try.prog 40 #[.pointer (some ⟨v.x, 0, none⟩), .slice A n c] w fun e w' => e = .returned (.bool (fitsR v.width r)) ∧ Ext w w' := by
  have HV := hide (row_valid r A n c w ha.at_ ha.len ha.small)
  have hl := ha.at_.len
  have a0 : w.cell? ⟨v.x, 0, none⟩ = some (.int .i64 v.width) := h.str.cell 0
  clear h ha
  unfold fitsR
  generalize v.x = x at *
  generalize v.width = wd at *
  subst hl
  go_enter Try.func40, Try.ntmps40
  by_cases hw : r.length = wd
  · subst hw
    go_wp2_with ((with_reducible refine HV.out.mono ?_); rintro e w1 ⟨rfl, h1⟩; have X1 := hide h1; clear h1)
    go_ret
    exact ⟨by simp, X1.out⟩
  · have hw2 : ¬ (r.length : Int) = (wd : Int) := by omega
    go_wp2_with fail
    go_ret
    exact ⟨by simp [hw], Ext.refl _⟩
set_option maxRecDepth 100000 in
theorem pack_any {w : World} {r : List V} {A : Option Addr} {n : Nat} (c : Nat) (ha : ArgR w A n r) :
    Calls Try.prog 42 #[.slice A n c] w fun e w' => ∃ K, e = .returned K ∧ OwnKey w' (fun b => w.heap.size ≤ b) K (pk r) ∧ Ext w w' := by
  have HV := hide (row_pack r A n c w ha.at_ ha.len ha.small ha.wf)
  clear ha
  go_enter Try.func42, Try.ntmps42
  go_wp2_with ((with_reducible refine HV.out.mono ?_); rintro e w1 ⟨A1, c1, rfl, h1, h2⟩; have X1 := hide h1; have X2 := hide h2; clear h1 h2)
  go_ret
  exact ⟨_, rfl, own_key X1.out, X2.out⟩

/-- so much work more -/
def StV.tick (v : StV) (k : Nat) : StV := { v with K := v.K + k }
theorem part_tick {w : World} {B : Nat → Prop} {v : StV} (k : Nat) : ∀ i, part w B v i → part w B (v.tick k) i
  | 0, h => h
  | 1, h => h
  | 2, h => h
  | 3, ⟨h1, n, h2, h3⟩ => ⟨h1, n, Nat.le_trans h2 (Nat.le_add_right _ _), h3⟩
  | 4, ⟨p, h1, h2⟩ => ⟨p, Nat.le_trans h1 (Nat.le_add_right _ _), h2⟩
  | 5, h => h
  | 6, ⟨h1, n, h2, h3⟩ => ⟨h1, n, Nat.le_trans h2 (Nat.le_add_right _ _), h3⟩
  | 7, h => h
  | 8, h => h
  | 9, h => h
  | _ + 10, h => fun xk hk => by
    obtain ⟨p, h1, h2⟩ := h xk hk
    exact ⟨p, Nat.le_trans h1 (Nat.le_add_right _ _), h2⟩
theorem StM.tick {w : World} {lab : Lab} {v : StV} (h : StM w lab v) (k : Nat) : StM w lab (v.tick k) := ⟨h.lt, fun i => part_tick k i (h.part i)⟩
/-- a call that keeps all but the work -/
theorem StM.same {w w' : World} {lab : Lab} {v : StV} (h : StM w lab v) (hw : Ext w w') (k : Nat) : StR w lab w' (v.tick k) := ⟨lab, (h.ext hw).tick k, fun _ hb => .inl hb, Chg.of hw⟩
theorem StR.pre {w w1 w2 : World} {lab : Lab} {v : StV} (h : StR w1 lab w2 v) (hw : Ext w w1) : StR w lab w2 v := h.trans (fun _ hb => .inl hb) (Chg.of hw)
theorem StM.aside {w : World} {lab : Lab} {v : StV} (h : StM w lab v) {n j : Nat} (hn : w.heap.size ≤ n) {A : Option Addr} (hA : ∀ a, A = some a → n ≤ a.block) : Aside (lab.own j) A := fun a ha hb => by
  have h1 := h.lt _ _ hb
  have h2 := hA a ha
  omega
theorem StM.get_where {w : World} {lab : Lab} {v : StV} (h : StM w lab v) (hK : v.K ≤ 4611686018427387904) {key : List UInt8} {A : Option Addr} {n : Nat} (c : Nat) (hk : KeyAt w A n key) (ha : Aside (lab.own 4) A) (hn : n ≤ 4611686018427387904) :
    Calls Try.prog 41 #[.pointer (some ⟨v.xw, 0, none⟩), .slice A n c] w fun e w' => ∃ r : Option Int, e = .returned (.tuple #[.int .i64 (r.getD 0), .bool r.isSome]) ∧ LookAt v.E key r ∧ StR w lab w' (v.tick 1) := by
  obtain ⟨p, h1, h2⟩ := h.part 4
  refine (get_any h2 (by omega) key A n c hk ha hn).mono ?_
  rintro e w' ⟨r, h3, h4, h5, h6⟩
  refine ⟨r, h3, h4, h.chg1 4 (B' := lab.own 4) (fun b hb => .inl hb) h5.old h6 (fun i _ => part_tick 1 i) ⟨p + 1, by simp only [StV.tick]; omega, h5⟩⟩
theorem StM.get_group {w : World} {lab : Lab} {v : StV} (h : StM w lab v) (hK : v.K ≤ 4611686018427387904) {k xk : Nat} (hx : v.gx[k]? = some xk) {key : List UInt8} {A : Option Addr} {n : Nat} (c : Nat) (hk : KeyAt w A n key) (ha : Aside (lab.own (k + 10)) A) (hn : n ≤ 4611686018427387904) :
    Calls Try.prog 41 #[.pointer (some ⟨xk, 0, none⟩), .slice A n c] w fun e w' => ∃ r : Option Int, e = .returned (.tuple #[.int .i64 (r.getD 0), .bool r.isSome]) ∧ LookAt (v.G k) key r ∧ StR w lab w' (v.tick 1) := by
  obtain ⟨p, h1, h2⟩ := h.part (k + 10) xk hx
  refine (get_any h2 (by omega) key A n c hk ha hn).mono ?_
  rintro e w' ⟨r, h3, h4, h5, h6⟩
  refine ⟨r, h3, h4, h.chg1 (k + 10) (B' := lab.own (k + 10)) (fun b hb => .inl hb) h5.old h6 (fun i _ => part_tick 1 i) fun x2 hx2 => ?_⟩
  obtain rfl : xk = x2 := Option.some.inj (hx.symm.trans hx2)
  exact ⟨p + 1, by simp only [StV.tick]; omega, h5⟩
/-- what a row's slot is -/
def SlotAt (v : StV) (r : List V) (o : Option Int) : Prop := if fitsR v.width r = true then LookAt v.E (pk r) o else o = none
theorem pk_len_le (r : List V) : (pk r).length ≤ 4611686018427387904 ∨ True := .inr trivial

set_option maxRecDepth 100000 in
set_option maxHeartbeats 1000000 in
theorem slot_any {w : World} {lab : Lab} {v : StV} (h : StM w lab v) (hK : v.K ≤ 4611686018427387904) {r : List V} {A : Option Addr} {n : Nat} (c : Nat) (ha : ArgR w A n r) (hp : (pk r).length ≤ 4611686018427387904) :
    Calls Try.prog 30 #[.pointer (some ⟨v.x, 0, none⟩), .slice A n c] w fun e w' => ∃ o : Option Int, SlotAt v r o ∧ e = .returned (.int .i64 (o.getD (-1))) ∧ StR w lab w' (v.tick 1) := by
  have HF := hide (fits_any h c ha)
  have H := hide h
  have HA := hide ha
  clear h ha
  go_enter Try.func30, Try.ntmps30
  cases hf : fitsR v.width r with
  | false =>
    rw [hf] at HF
    go_wp2_with ((with_reducible refine HF.out.mono ?_); rintro e w1 ⟨rfl, h1⟩; have X1 := hide h1; clear h1)
    go_ret
    exact ⟨none, by simp [SlotAt, hf], rfl, H.out.same X1.out 1⟩
  | true =>
    rw [hf] at HF
    go_upto_region 3 with ((with_reducible refine HF.out.mono ?_); rintro e w1 ⟨rfl, h1⟩; have X1 := hide h1; clear h1)
    have H1 := hide (H.out.ext X1.out)
    have a6 : w1.cell? ⟨v.x, 6, none⟩ = some (.pointer (some ⟨v.xw, 0, none⟩)) := H1.out.str.cell 6
    have a6 := cell_ext a6
    have HP := hide (fun w2 (h2 : Ext w1 w2) => pack_any c (HA.out.ext (X1.out.trans h2)))
    refine wp_region_extw 6 (by kernel_rfl) (by kernel_rfl) (by kernel_rfl) (fun _ _ _ _ _ h => h) ?_
    iterate 5
      refine wpE_k (by kernel_rfl) (by kernel_rfl) ?_
      apply Exists.intro
      refine ⟨fun w1 hw1 => ?_, fun K hK => ?_⟩
      · go_simp; first | done | rfl
      go_simp; refine hK _ _ ?_; clear hK K
    refine wpE_p [] (fun u w2 => OwnKey w2 (fun b => w1.heap.size ≤ b) u (pk r)) (fun u w2 w3 _ h2 h3 => h3.ext h2) rfl (by kernel_rfl) (fun w9 hw9 => ?_) ?_
    · clear a6
      simp only [LookQ]
      go_simp
      refine ⟨Ext.refl _, (HP.out w9 hw9).mono fun e w' h => ?_⟩
      obtain ⟨K, rfl, h2, h3⟩ := h
      exact ⟨K, rfl, h3, h2.mono fun b hb => Nat.le_trans hw9.size hb⟩
    refine wpE_nil ⟨rfl, by kernel_rfl, fun w2 hw2 => ?_⟩
    simp only [EndQ]
    intro K hK1
    obtain ⟨A1, n1, c1, rfl, hk1, hk2⟩ := hK1.at_
    simp only [List.drop, List.take]
    have H2 := hide (H1.out.ext hw2)
    obtain rfl := hk1.len
    have HG := hide (H2.out.get_where hK c1 hk1 (H1.out.aside (Nat.le_refl _) hk2) hp)
    have X2 := hide (X1.out.trans hw2)
    clear hK1 hk1 hk2 a6 hw2 HP
    go_wp2_with ((with_reducible refine HG.out.mono ?_); rintro e w3 ⟨o, rfl, h3, h4⟩; have L3 := hide h3; have S3 := hide h4; clear h3 h4)
    simp only [exW, wpW]
    refine ⟨_, rfl, ?_⟩; go_simp
    refine ⟨_, rfl, ?_⟩; go_simp
    refine ⟨_, rfl, ?_⟩; go_simp
    refine ⟨_, rfl, ?_⟩; go_simp
    refine ⟨_, rfl, ?_⟩; go_simp
    cases o with
    | none =>
      dsimp only [Option.isSome, Option.getD]
      go_wp2_with fail
      go_ret
      exact ⟨none, by simp only [SlotAt, hf, if_true]; exact L3.out, rfl, S3.out.pre X2.out⟩
    | some q =>
      dsimp only [Option.isSome, Option.getD]
      go_wp2_with fail
      go_ret
      exact ⟨some q, by simp only [SlotAt, hf, if_true]; exact L3.out, rfl, S3.out.pre X2.out⟩

/-- a row's key -/
def keyR (g : List Nat) (r : List V) : List V := (projR r (g.map Int.ofNat)).1
theorem GrpAt.row {w : World} {B : Nat → Prop} {A : Option Addr} {n : Nat} {gs : List (List Nat)} (h : GrpAt w B A n gs) {k : Nat} {g : List Nat} (hg : gs[k]? = some g) :
    ∃ b off Ak ck, A = some ⟨b, off, none⟩ ∧ w.cell? ⟨b, off + k, none⟩ = some (.slice Ak g.length ck) ∧ NumAt w Ak g.length (g.map Int.ofNat) := by
  obtain ⟨h1, -, vs, h3, h4⟩ := h
  obtain ⟨Ak, ck, h5, h6⟩ := h4 k g hg
  have hk := (List.getElem?_eq_some_iff.1 hg).1
  obtain ⟨b, off, e, hc⟩ := h3.2 (by omega)
  exact ⟨b, off, Ak, ck, e, hc k _ h5, h6.1⟩
set_option maxRecDepth 100000 in
theorem key_any {w : World} {lab : Lab} {v : StV} (h : StM w lab v) {k : Nat} {g : List Nat} (hg : v.gs[k]? = some g) (hgl : g.length ≤ 1048576) (hgs : v.gs.length ≤ 1048576) {r : List V} {A : Option Addr} {n : Nat} (c : Nat) (ha : ArgR w A n r) :
    Calls Try.prog 85 #[.pointer (some ⟨v.x, 0, none⟩), .int .i64 k, .slice A n c] w fun e w' => ∃ A' c', e = .returned (.slice A' (keyR g r).length c') ∧ w'.ownsRow w.heap.size 59 3 (.slice A' (keyR g r).length c') (keyR g r).length (cellsR (keyR g r)) ∧ Ext w w' := by
  obtain ⟨b, off, Ak, ck, e, h3, h4⟩ := GrpAt.row (h.part 1) hg
  have HP := hide (proj_any r (g.map Int.ofNat) A Ak n g.length c ck w ha.at_ h4 ha.len hgl)
  have a3 : w.cell? ⟨v.x, 3, none⟩ = some (.slice (some ⟨b, off, none⟩) v.gs.length v.cG) := by rw [← e]; exact h.str.cell 3
  have hk := (List.getElem?_eq_some_iff.1 hg).1
  clear h ha h4 e hg
  generalize v.x = x at *
  generalize v.gs.length = m at *
  generalize v.cG = cG at *
  go_enter Try.func85, Try.ntmps85
  go_wp2_with ((with_reducible refine HP.out.mono ?_); rintro e w1 ⟨A1, c1, rfl, h1, h2⟩; have X1 := hide h1; have X2 := hide h2; clear h1 h2)
  go_ret
  exact ⟨_, _, rfl, X1.out, X2.out⟩
/-- what a key's list is -/
def ListAt (v : StV) (k : Nat) (g : List Nat) (key : List V) (o : Option Int) : Prop := if key.length = g.length ∧ validR key = true then LookAt (v.G k) (pk key) o else o = none
theorem StM.index {w : World} {lab : Lab} {v : StV} (h : StM w lab v) {k xk : Nat} (hx : v.gx[k]? = some xk) : ∃ b, v.gA = some ⟨b, 0, none⟩ ∧ w.cell? ⟨b, k, none⟩ = some (.pointer (some ⟨xk, 0, none⟩)) ∧ v.gx.length ≤ v.gC ∧ v.gC ≤ 9223372036854775807 := by
  have h1 := (h.part 0).2.2.1
  have hk := (List.getElem?_eq_some_iff.1 hx).1
  obtain ⟨b, e, -, -, hc, -⟩ := h1.at_ (by omega)
  exact ⟨b, e, hc k _ (by simp [ptrC, hx]), h1.cap⟩
set_option maxRecDepth 100000 in
set_option maxHeartbeats 1000000 in
theorem slist_any {w : World} {lab : Lab} {v : StV} (h : StM w lab v) (hK : v.K ≤ 4611686018427387904) {k xk : Nat} {g : List Nat} (hg : v.gs[k]? = some g) (hgl : g.length ≤ 1048576) (hx : v.gx[k]? = some xk) {r : List V} {A : Option Addr} {n : Nat} (c : Nat) (ha : ArgR w A n r) (hp : (pk r).length ≤ 4611686018427387904) :
    Calls Try.prog 94 #[.pointer (some ⟨v.x, 0, none⟩), .int .i64 k, .slice A n c] w fun e w' => ∃ o : Option Int, ListAt v k g r o ∧ e = .returned (.int .i64 (o.getD (-1))) ∧ StR w lab w' (v.tick 1) := by
  obtain ⟨b, off, Ak, ck, e, h3, h4⟩ := GrpAt.row (h.part 1) hg
  have HV := hide (row_valid r A n c w ha.at_ ha.len ha.small)
  have a3 : w.cell? ⟨v.x, 3, none⟩ = some (.slice (some ⟨b, off, none⟩) v.gs.length v.cG) := by rw [← e]; exact h.str.cell 3
  have hk := (List.getElem?_eq_some_iff.1 hg).1
  have hkx := (List.getElem?_eq_some_iff.1 hx).1
  obtain rfl := ha.at_.len
  have H := hide h
  have HA := hide ha
  have HX := hide hx
  clear h ha h4 e hg hx
  generalize hm : v.gs.length = m at *
  obtain ⟨gl, hgl0⟩ : ∃ gl, g.length = gl := ⟨_, rfl⟩
  rw [hgl0] at h3 hgl
  go_enter Try.func94, Try.ntmps94
  by_cases hl : r.length = gl
  · subst hl
    cases hv : validR r with
    | false =>
      rw [hv] at HV
      go_wp2_with ((with_reducible refine HV.out.mono ?_); rintro e w1 ⟨rfl, h1⟩; have X1 := hide h1; clear h1)
      go_ret
      exact ⟨none, by simp [ListAt, hv], rfl, H.out.same X1.out 1⟩
    | true =>
      rw [hv] at HV
      go_upto_region 3 with ((with_reducible refine HV.out.mono ?_); rintro e w1 ⟨rfl, h1⟩; have X1 := hide h1; clear h1)
      have H1 := hide (H.out.ext X1.out)
      obtain ⟨bg, eg, h6, h7⟩ := H1.out.index HX.out
      have a7 : w1.cell? ⟨v.x, 7, none⟩ = some (.slice (some ⟨bg, 0, none⟩) v.gx.length v.gC) := by rw [← eg]; exact H1.out.str.cell 7
      clear a3 h3
      have a7 := cell_ext a7
      have h6 := cell_ext h6
      have HP := hide (fun w2 (h2 : Ext w1 w2) => pack_any c (HA.out.ext (X1.out.trans h2)))
      have hkx2 : (k : Int) < (v.gx.length : Int) := by omega
      refine wp_region_extw 9 (by kernel_rfl) (by kernel_rfl) (by kernel_rfl) (fun _ _ _ _ _ h => h) ?_
      iterate 8
        refine wpE_k (by kernel_rfl) (by kernel_rfl) ?_
        apply Exists.intro
        refine ⟨fun w1 hw1 => ?_, fun K hK => ?_⟩
        · go_simp; first | done | rfl
        go_simp; refine hK _ _ ?_; clear hK K
      refine wpE_p [] (fun u w2 => OwnKey w2 (fun b => w1.heap.size ≤ b) u (pk r)) (fun u w2 w3 _ h2 h3 => h3.ext h2) rfl (by kernel_rfl) (fun w9 hw9 => ?_) ?_
      · clear a7 h6
        simp only [LookQ]
        go_simp
        refine ⟨Ext.refl _, (HP.out w9 hw9).mono fun e w' h => ?_⟩
        obtain ⟨K, rfl, h2, h3⟩ := h
        exact ⟨K, rfl, h3, h2.mono fun b hb => Nat.le_trans hw9.size hb⟩
      refine wpE_nil ⟨rfl, by kernel_rfl, fun w2 hw2 => ?_⟩
      simp only [EndQ]
      intro K hK1
      obtain ⟨A1, n1, c1, rfl, hk1, hk2⟩ := hK1.at_
      simp only [List.drop, List.take]
      have H2 := hide (H1.out.ext hw2)
      obtain rfl := hk1.len
      have HG := hide (H2.out.get_group hK HX.out c1 hk1 (H1.out.aside (Nat.le_refl _) hk2) hp)
      have X2 := hide (X1.out.trans hw2)
      clear hK1 hk1 hk2 a7 h6 hw2 HP
      go_wp2_with ((with_reducible refine HG.out.mono ?_); rintro e w3 ⟨o, rfl, h3, h4⟩; have L3 := hide h3; have S3 := hide h4; clear h3 h4)
      simp only [exW, wpW]
      refine ⟨_, rfl, ?_⟩; go_simp
      refine ⟨_, rfl, ?_⟩; go_simp
      refine ⟨_, rfl, ?_⟩; go_simp
      refine ⟨_, rfl, ?_⟩; go_simp
      refine ⟨_, rfl, ?_⟩; go_simp
      cases o with
      | none =>
        dsimp only [Option.isSome, Option.getD]
        go_wp2_with fail
        go_ret
        exact ⟨none, by simp only [ListAt, hv, hgl0, and_self, if_true]; exact L3.out, rfl, S3.out.pre X2.out⟩
      | some q =>
        dsimp only [Option.isSome, Option.getD]
        go_wp2_with fail
        go_ret
        exact ⟨some q, by simp only [ListAt, hv, hgl0, and_self, if_true]; exact L3.out, rfl, S3.out.pre X2.out⟩
  · have hl2 : ¬ (r.length : Int) = (gl : Int) := by omega
    go_wp2_with fail
    go_ret
    exact ⟨none, by simp [ListAt, hgl0, hl], rfl, H.out.same (Ext.refl _) 1⟩
end Go.Proofs.Ytahdiiaadjdmcaa

namespace Go.Proofs.Ytahdiiaadjdmcaa
open Go.RowKit

theorem takeI {w : World} {B : Nat → Prop} {x most : Nat} {sl : List (Slt Value)} {free : List Nat} {live : Nat} (vk : Int) (h : HArI w B x most sl free live) (hl : live < most) (hg : ∀ i, genA sl i < 1073741824) :
    Calls Try.prog 97 #[.pointer (some ⟨x, 0, none⟩), .int .i64 vk] w fun e w' => ∃ i sl' free', TookI most sl free (.int .i64 vk) i sl' free' ∧ e = .returned (.tuple #[.agg #[.int .i64 i, .int .i64 ((genA sl i : Nat) + 1 : Int)], .int .i64 0]) ∧ ArRI w B x most sl' free' (live + 1) w' := by
  rcases List.eq_nil_or_concat free with rfl | ⟨F, i, rfl⟩
  · exact arena_takeI_2 h (by have := h.ok.live; simp at this; omega) hg
  · rw [List.concat_eq_append] at *
    exact arena_takeI_1 h hg
theorem takeR {w : World} {B : Nat → Prop} {x most : Nat} {sl : List (Slt Value)} {free : List Nat} {live : Nat} (A : Option Addr) (n c : Nat) (h : HArR w B x most sl free live) (hl : live < most) (hg : ∀ i, genA sl i < 1073741824) :
    Calls Try.prog 82 #[.pointer (some ⟨x, 0, none⟩), .slice A n c] w fun e w' => ∃ i sl' free', TookR most sl free (.slice A n c) i sl' free' ∧ e = .returned (.tuple #[.agg #[.int .i64 i, .int .i64 ((genA sl i : Nat) + 1 : Int)], .int .i64 0]) ∧ ArRR w B x most sl' free' (live + 1) w' := by
  rcases List.eq_nil_or_concat free with rfl | ⟨F, i, rfl⟩
  · exact arena_takeR_2 h (by have := h.ok.live; simp at this; omega) hg
  · rw [List.concat_eq_append] at *
    exact arena_takeR_1 h hg
theorem StM.take_list {w : World} {lab : Lab} {v : StV} (h : StM w lab v) (vk : Int) (hl : v.lL < v.most * v.L) (hg : ∀ i, genA v.sL i < 1073741824) :
    Calls Try.prog 97 #[.pointer (some ⟨v.xl, 0, none⟩), .int .i64 vk] w fun e w' => ∃ i sl' free', TookI (v.most * v.L) v.sL v.fL (.int .i64 vk) i sl' free' ∧ e = .returned (.tuple #[.agg #[.int .i64 i, .int .i64 ((genA v.sL i : Nat) + 1 : Int)], .int .i64 0]) ∧ StR w lab w' { v with sL := sl', fL := free', lL := v.lL + 1 } := by
  refine (takeI vk (h.part 5) hl hg).mono ?_
  rintro e w' ⟨i, sl', free', h1, h2, B', h3, h4, h5⟩
  refine ⟨i, sl', free', h1, h2, h.chg1 5 (B' := B') h4 h3.lt h5 (fun i hi => ?_) h3⟩
  match i, hi with
  | 0, _ => exact id
  | 1, _ => exact id
  | 2, _ => exact id
  | 3, _ => exact id
  | 4, _ => exact id
  | 5, hi => exact absurd rfl hi
  | 6, _ => exact id
  | 7, _ => exact id
  | 8, _ => exact id
  | 9, _ => exact id
  | m + 10, _ => exact id
theorem turned_chg {B : Nat → Prop} {w w' : World} {b : Nat} (h : w.mapTurned w' b) (hb : B b) : Chg B w w' := by
  have hg := h.grown
  exact ⟨hg.os, hg.tape, hg.output, hg.size, fun k hk hB => hg.block k hk fun e => hB (by injection e with e; rw [e]; exact hb)⟩
theorem StM.put_ref {w w' : World} {lab : Lab} {v : StV} (h : StM w lab v) {n : Nat} {σ : IMap} (hn : n ≤ v.K + 1) (hm : MapI w' v.rm n σ) (ht : w.mapTurned w' v.rm) : StR w lab w' { v with refs := σ, K := v.K + 1 } := by
  have h3 := h.part 3
  have hC := turned_chg (B := lab.own 3) ht h3.1
  refine h.chg1 3 (B' := lab.own 3) (fun b hb => .inl hb) (fun b hb => Nat.lt_of_lt_of_le (h.lt b _ hb) hC.size) hC (fun i hi => ?_) ⟨h3.1, n, hn, hm⟩
  match i, hi with
  | 0, _ => exact fun h => part_tick 1 0 h
  | 1, _ => exact fun h => part_tick 1 1 h
  | 2, _ => exact fun h => part_tick 1 2 h
  | 3, hi => exact absurd rfl hi
  | 4, _ => exact fun h => part_tick 1 4 h
  | 5, _ => exact fun h => part_tick 1 5 h
  | 6, _ => exact fun h => part_tick 1 6 h
  | 7, _ => exact fun h => part_tick 1 7 h
  | 8, _ => exact fun h => part_tick 1 8 h
  | 9, _ => exact fun h => part_tick 1 9 h
  | m + 10, _ => exact fun h => part_tick 1 (m + 10) h
theorem StM.put_lref {w w' : World} {lab : Lab} {v : StV} (h : StM w lab v) {n : Nat} {σ : IMap} (hn : n ≤ v.K + 1) (hm : MapI w' v.lm n σ) (ht : w.mapTurned w' v.lm) : StR w lab w' { v with lrefs := σ, K := v.K + 1 } := by
  have h3 := h.part 6
  have hC := turned_chg (B := lab.own 6) ht h3.1
  refine h.chg1 6 (B' := lab.own 6) (fun b hb => .inl hb) (fun b hb => Nat.lt_of_lt_of_le (h.lt b _ hb) hC.size) hC (fun i hi => ?_) ⟨h3.1, n, hn, hm⟩
  match i, hi with
  | 0, _ => exact fun h => part_tick 1 0 h
  | 1, _ => exact fun h => part_tick 1 1 h
  | 2, _ => exact fun h => part_tick 1 2 h
  | 3, _ => exact fun h => part_tick 1 3 h
  | 4, _ => exact fun h => part_tick 1 4 h
  | 5, _ => exact fun h => part_tick 1 5 h
  | 6, hi => exact absurd rfl hi
  | 7, _ => exact fun h => part_tick 1 7 h
  | 8, _ => exact fun h => part_tick 1 8 h
  | 9, _ => exact fun h => part_tick 1 9 h
  | m + 10, _ => exact fun h => part_tick 1 (m + 10) h
theorem StM.put_where {w : World} {lab : Lab} {v : StV} (h : StM w lab v) (hK : v.K ≤ 4611686018427387904) {key : List UInt8} {A : Option Addr} {n : Nat} (c : Nat) (u : Int) (hk : KeyAt w A n key) (ha : Aside (lab.own 4) A) (hl : key.length ≤ 4096) (hno : ∀ z, (key, z) ∉ v.E) (hr : v.E.length < v.most) :
    Calls Try.prog 83 #[.pointer (some ⟨v.xw, 0, none⟩), .slice A n c, .int .i64 u] w fun e w' => e = .returned (.tuple #[.int .i64 0, .bool false, .int .i64 0]) ∧ StR w lab w' { v with E := (key, u) :: v.E, K := v.K + 1 } := by
  obtain ⟨p, h1, h2⟩ := h.part 4
  have hkl := hk.len
  refine (put_any h2 (by omega) key u A n c hk ha (by omega)).mono ?_
  rintro e w' ⟨old, had, err, E', B', rfl, h3, h4, h5, h6⟩
  rcases h3 with ⟨h7, _⟩ | ⟨_, _, _, R, h7, _⟩ | ⟨_, _, h7, _⟩ | ⟨_, _, _, rfl, rfl, rfl, rfl⟩
  · omega
  · exact absurd (h7.mem_iff.2 (by simp)) (hno old)
  · omega
  · refine ⟨rfl, h.chg1 4 h5 h4.old h6 (fun i hi => ?_) ⟨p + 1, by simp only; omega, h4⟩⟩
    match i, hi with
    | 0, _ => exact fun h => part_tick 1 0 h
    | 1, _ => exact fun h => part_tick 1 1 h
    | 2, _ => exact fun h => part_tick 1 2 h
    | 3, _ => exact fun h => part_tick 1 3 h
    | 4, hi => exact absurd rfl hi
    | 5, _ => exact fun h => part_tick 1 5 h
    | 6, _ => exact fun h => part_tick 1 6 h
    | 7, _ => exact fun h => part_tick 1 7 h
    | 8, _ => exact fun h => part_tick 1 8 h
    | 9, _ => exact fun h => part_tick 1 9 h
    | m + 10, _ => exact fun h => part_tick 1 (m + 10) h
theorem StM.del_where {w : World} {lab : Lab} {v : StV} (h : StM w lab v) (hK : v.K ≤ 4611686018427387904) {key : List UInt8} {A : Option Addr} {n : Nat} (c : Nat) {u : Int} (hk : KeyAt w A n key) (ha : Aside (lab.own 4) A) (hn : n ≤ 4611686018427387904) (hin : (key, u) ∈ v.E) (hone : ∀ a b, (key, a) ∈ v.E → (key, b) ∈ v.E → a = b) :
    Calls Try.prog 91 #[.pointer (some ⟨v.xw, 0, none⟩), .slice A n c] w fun e w' => e = .returned (.tuple #[.int .i64 u, .bool true]) ∧ ∃ E', List.Perm v.E ((key, u) :: E') ∧ StR w lab w' { v with E := E', K := v.K + 1 } := by
  obtain ⟨p, h1, h2⟩ := h.part 4
  refine (delete_any h2 (by omega) key A n c hk ha hn).mono ?_
  rintro e w' ⟨r, rfl, h3, ⟨E', h4, h5⟩, h6⟩
  cases r with
  | none => exact absurd hin (h3.2 rfl u)
  | some z =>
    obtain rfl := hone z u (h3.1 z rfl) hin
    refine ⟨rfl, E', h4, h.chg1 4 (B' := lab.own 4) (fun b hb => .inl hb) h5.old h6 (fun i hi => ?_) ⟨p + 1, by simp only; omega, h5⟩⟩
    match i, hi with
    | 0, _ => exact fun h => part_tick 1 0 h
    | 1, _ => exact fun h => part_tick 1 1 h
    | 2, _ => exact fun h => part_tick 1 2 h
    | 3, _ => exact fun h => part_tick 1 3 h
    | 4, hi => exact absurd rfl hi
    | 5, _ => exact fun h => part_tick 1 5 h
    | 6, _ => exact fun h => part_tick 1 6 h
    | 7, _ => exact fun h => part_tick 1 7 h
    | 8, _ => exact fun h => part_tick 1 8 h
    | 9, _ => exact fun h => part_tick 1 9 h
    | m + 10, _ => exact fun h => part_tick 1 (m + 10) h
theorem StM.append {w : World} {lab : Lab} {v : StV} (h : StM w lab v) {n c : Nat} (hn : n < v.most * v.L + 1) (hc : c < v.most * v.L) (hl : ∀ m, c ∉ v.cont m) :
    Calls Try.prog 87 #[.pointer (some ⟨v.xo, 0, none⟩), .int .i64 n, .int .i64 c] w fun e w' => e = .returned (.int .i64 0) ∧ StR w lab w' { v with cont := upd v.cont n (v.cont n ++ [c]) } := by
  refine (append_any (h.part 7) hn hc hl).mono ?_
  rintro e w' ⟨rfl, B', h3, h4, h5⟩
  refine ⟨rfl, h.chg1 7 h4 h3.lt h5 (fun i hi => ?_) h3⟩
  match i, hi with
  | 0, _ => exact id
  | 1, _ => exact id
  | 2, _ => exact id
  | 3, _ => exact id
  | 4, _ => exact id
  | 5, _ => exact id
  | 6, _ => exact id
  | 7, hi => exact absurd rfl hi
  | 8, _ => exact id
  | 9, _ => exact id
  | m + 10, _ => exact id
theorem StM.before {w : World} {lab : Lab} {v : StV} (h : StM w lab v) {n c m : Nat} {A D : List Nat} (hAD : v.cont n = A ++ m :: D) (hc : c < v.most * v.L) (hl : ∀ m, c ∉ v.cont m) :
    Calls Try.prog 86 #[.pointer (some ⟨v.xo, 0, none⟩), .int .i64 c, .int .i64 m] w fun e w' => e = .returned (.int .i64 0) ∧ StR w lab w' { v with cont := upd v.cont n (A ++ c :: m :: D) } := by
  refine (before_any (h.part 7) hAD hc hl).mono ?_
  rintro e w' ⟨rfl, B', h3, h4, h5⟩
  refine ⟨rfl, h.chg1 7 h4 h3.lt h5 (fun i hi => ?_) h3⟩
  match i, hi with
  | 0, _ => exact id
  | 1, _ => exact id
  | 2, _ => exact id
  | 3, _ => exact id
  | 4, _ => exact id
  | 5, _ => exact id
  | 6, _ => exact id
  | 7, hi => exact absurd rfl hi
  | 8, _ => exact id
  | 9, _ => exact id
  | m + 10, _ => exact id
theorem StM.remove {w : World} {lab : Lab} {v : StV} (h : StM w lab v) {n c : Nat} {A D : List Nat} (hAD : v.cont n = A ++ c :: D) :
    Calls Try.prog 89 #[.pointer (some ⟨v.xo, 0, none⟩), .int .i64 c] w fun e w' => e = .returned (.int .i64 0) ∧ StR w lab w' { v with cont := upd v.cont n (A ++ D) } := by
  refine (remove_any (h.part 7) hAD).mono ?_
  rintro e w' ⟨rfl, h3, h5⟩
  refine ⟨rfl, h.chg1 7 (B' := lab.own 7) (fun b hb => .inl hb) h3.lt h5 (fun i hi => ?_) h3⟩
  match i, hi with
  | 0, _ => exact id
  | 1, _ => exact id
  | 2, _ => exact id
  | 3, _ => exact id
  | 4, _ => exact id
  | 5, _ => exact id
  | 6, _ => exact id
  | 7, hi => exact absurd rfl hi
  | 8, _ => exact id
  | 9, _ => exact id
  | m + 10, _ => exact id
theorem StM.clen {w : World} {lab : Lab} {v : StV} (h : StM w lab v) {n : Nat} (hn : n < v.most * v.L + 1) :
    Calls Try.prog 101 #[.pointer (some ⟨v.xo, 0, none⟩), .int .i64 n] w fun e w' => e = .returned (.tuple #[.int .i64 (v.cont n).length, .int .i64 0]) ∧ StR w lab w' v := by
  refine (clen_any (h.part 7) hn).mono ?_
  rintro e w' ⟨rfl, B', h3, h4, h5⟩
  refine ⟨rfl, h.chg1 7 h4 h3.lt h5 (fun i hi => ?_) h3⟩
  match i, hi with
  | 0, _ => exact id
  | 1, _ => exact id
  | 2, _ => exact id
  | 3, _ => exact id
  | 4, _ => exact id
  | 5, _ => exact id
  | 6, _ => exact id
  | 7, hi => exact absurd rfl hi
  | 8, _ => exact id
  | 9, _ => exact id
  | m + 10, _ => exact id
/-- the k-th index holds other entries -/
def updG (G : Nat → Ents) (k : Nat) (E : Ents) : Nat → Ents := fun j => if j = k then E else G j
theorem StM.put_group {w : World} {lab : Lab} {v : StV} (h : StM w lab v) (hK : v.K ≤ 4611686018427387904) {k xk : Nat} (hx : v.gx[k]? = some xk) {key : List UInt8} {A : Option Addr} {n : Nat} (c : Nat) (u : Int) (hk : KeyAt w A n key) (ha : Aside (lab.own (k + 10)) A) (hl : key.length ≤ 4096) (hno : ∀ z, (key, z) ∉ v.G k) (hr : (v.G k).length < v.most) :
    Calls Try.prog 83 #[.pointer (some ⟨xk, 0, none⟩), .slice A n c, .int .i64 u] w fun e w' => e = .returned (.tuple #[.int .i64 0, .bool false, .int .i64 0]) ∧ StR w lab w' { v with G := updG v.G k ((key, u) :: v.G k), K := v.K + 1 } := by
  obtain ⟨p, h1, h2⟩ := h.part (k + 10) xk hx
  have hkl := hk.len
  refine (put_any h2 (by omega) key u A n c hk ha (by omega)).mono ?_
  rintro e w' ⟨old, had, err, E', B', rfl, h3, h4, h5, h6⟩
  rcases h3 with ⟨h7, _⟩ | ⟨_, _, _, R, h7, _⟩ | ⟨_, _, h7, _⟩ | ⟨_, _, _, rfl, rfl, rfl, rfl⟩
  · omega
  · exact absurd (h7.mem_iff.2 (by simp)) (hno old)
  · omega
  · refine ⟨rfl, h.chg1 (k + 10) h5 h4.old h6 (fun i hi => ?_) fun x2 hx2 => ?_⟩
    · match i, hi with
      | 0, _ => exact fun h => part_tick 1 0 h
      | 1, _ => exact fun h => part_tick 1 1 h
      | 2, _ => exact fun h => part_tick 1 2 h
      | 3, _ => exact fun h => part_tick 1 3 h
      | 4, _ => exact fun h => part_tick 1 4 h
      | 5, _ => exact fun h => part_tick 1 5 h
      | 6, _ => exact fun h => part_tick 1 6 h
      | 7, _ => exact fun h => part_tick 1 7 h
      | 8, _ => exact fun h => part_tick 1 8 h
      | 9, _ => exact fun h => part_tick 1 9 h
      | m + 10, hi =>
        intro h x2 hx2
        obtain ⟨q, h8, h9⟩ := h x2 hx2
        exact ⟨q, by simp only; omega, by simp only [updG, if_neg (show ¬ m = k by omega)]; exact h9⟩
    · obtain rfl : xk = x2 := Option.some.inj (hx.symm.trans hx2)
      exact ⟨p + 1, by simp only; omega, by simp only [updG, if_true]; exact h4⟩
theorem StM.del_group {w : World} {lab : Lab} {v : StV} (h : StM w lab v) (hK : v.K ≤ 4611686018427387904) {k xk : Nat} (hx : v.gx[k]? = some xk) {key : List UInt8} {A : Option Addr} {n : Nat} (c : Nat) {u : Int} (hk : KeyAt w A n key) (ha : Aside (lab.own (k + 10)) A) (hn : n ≤ 4611686018427387904) (hin : (key, u) ∈ v.G k) (hone : ∀ a b, (key, a) ∈ v.G k → (key, b) ∈ v.G k → a = b) :
    Calls Try.prog 91 #[.pointer (some ⟨xk, 0, none⟩), .slice A n c] w fun e w' => e = .returned (.tuple #[.int .i64 u, .bool true]) ∧ ∃ E', List.Perm (v.G k) ((key, u) :: E') ∧ StR w lab w' { v with G := updG v.G k E', K := v.K + 1 } := by
  obtain ⟨p, h1, h2⟩ := h.part (k + 10) xk hx
  refine (delete_any h2 (by omega) key A n c hk ha hn).mono ?_
  rintro e w' ⟨r, rfl, h3, ⟨E', h4, h5⟩, h6⟩
  cases r with
  | none => exact absurd hin (h3.2 rfl u)
  | some z =>
    obtain rfl := hone z u (h3.1 z rfl) hin
    refine ⟨rfl, E', h4, h.chg1 (k + 10) (B' := lab.own (k + 10)) (fun b hb => .inl hb) h5.old h6 (fun i hi => ?_) fun x2 hx2 => ?_⟩
    · match i, hi with
      | 0, _ => exact fun h => part_tick 1 0 h
      | 1, _ => exact fun h => part_tick 1 1 h
      | 2, _ => exact fun h => part_tick 1 2 h
      | 3, _ => exact fun h => part_tick 1 3 h
      | 4, _ => exact fun h => part_tick 1 4 h
      | 5, _ => exact fun h => part_tick 1 5 h
      | 6, _ => exact fun h => part_tick 1 6 h
      | 7, _ => exact fun h => part_tick 1 7 h
      | 8, _ => exact fun h => part_tick 1 8 h
      | 9, _ => exact fun h => part_tick 1 9 h
      | m + 10, hi =>
        intro h x2 hx2
        obtain ⟨q, h8, h9⟩ := h x2 hx2
        exact ⟨q, by simp only; omega, by simp only [updG, if_neg (show ¬ m = k by omega)]; exact h9⟩
    · obtain rfl : xk = x2 := Option.some.inj (hx.symm.trans hx2)
      exact ⟨p + 1, by simp only; omega, by simp only [updG, if_true]; exact h5⟩
theorem StM.give_list {w : World} {lab : Lab} {v : StV} (h : StM w lab v) {i g : Nat} {u : Value} (hi : v.sL[i]? = some (g, some u)) (hg : g < 1073741824) :
    Calls Try.prog 102 #[.pointer (some ⟨v.xl, 0, none⟩), .agg #[.int .i64 i, .int .i64 g]] w fun e w' => e = .returned (.int .i64 0) ∧ StR w lab w' { v with sL := v.sL.set i (g, none), fL := v.fL ++ [i], lL := v.lL - 1 } := by
  refine (arena_giveI (h.part 5) hi hg).mono ?_
  rintro e w' ⟨rfl, B', h3, h4, h5⟩
  refine ⟨rfl, h.chg1 5 h4 h3.lt h5 (fun i hi => ?_) h3⟩
  match i, hi with
  | 0, _ => exact id
  | 1, _ => exact id
  | 2, _ => exact id
  | 3, _ => exact id
  | 4, _ => exact id
  | 5, hi => exact absurd rfl hi
  | 6, _ => exact id
  | 7, _ => exact id
  | 8, _ => exact id
  | 9, _ => exact id
  | m + 10, _ => exact id
/-- a row's slot is given back: the row is there no longer -/
theorem StM.give_row {w : World} {lab : Lab} {v : StV} (h : StM w lab v) {i g : Nat} {u : Value} (hi : v.sl[i]? = some (g, some u)) (hg : g < 1073741824) {P' : List (Nat × List V)} (hP : ∀ j r, (j, r) ∈ P' → (j, r) ∈ v.P ∧ j ≠ i) :
    Calls Try.prog 92 #[.pointer (some ⟨v.xs, 0, none⟩), .agg #[.int .i64 i, .int .i64 g]] w fun e w' => e = .returned (.int .i64 0) ∧ StR w lab w' { v with sl := v.sl.set i (g, none), fr := v.fr ++ [i], lv := v.lv - 1, P := P' } := by
  have hil := (List.getElem?_eq_some_iff.1 hi).1
  refine (arena_giveR (h.part 2) hi hg).mono ?_
  rintro e w' ⟨rfl, B', h3, h4, h5⟩
  refine ⟨rfl, h.chg1 2 h4 h3.lt h5 (fun m hm => ?_) h3⟩
  match m, hm with
  | 0, _ => exact id
  | 1, _ => exact id
  | 2, hm => exact absurd rfl hm
  | 3, _ => exact id
  | 4, _ => exact id
  | 5, _ => exact id
  | 6, _ => exact id
  | 7, _ => exact id
  | 8, _ =>
    rintro ⟨h6, h7, h8⟩
    refine ⟨fun j r hj => ?_, h7, h8⟩
    obtain ⟨h9, h10⟩ := hP j r hj
    obtain ⟨A, n, c, h11, h12⟩ := h6 j r h9
    exact ⟨A, n, c, by simp only; rw [thg_set hil, if_neg h10]; exact h11, h12⟩
  | 9, _ => exact id
  | m + 10, _ => exact id
/-- a row takes a slot -/
theorem StM.take_row {w : World} {lab : Lab} {v : StV} (h : StM w lab v) {A : Option Addr} {n : Nat} (c : Nat) {r : List V} (hr : RowIn w (lab.own 8) A n r) (hl : v.lv < v.most) (hg : ∀ i, genA v.sl i < 1073741824) {P' : Nat → List (Nat × List V)} (hP : ∀ s j q, (j, q) ∈ P' s → (j, q) ∈ v.P ∨ (j = s ∧ q = r)) :
    Calls Try.prog 82 #[.pointer (some ⟨v.xs, 0, none⟩), .slice A n c] w fun e w' => ∃ s sl' free', TookR v.most v.sl v.fr (.slice A n c) s sl' free' ∧ e = .returned (.tuple #[.agg #[.int .i64 s, .int .i64 ((genA v.sl s : Nat) + 1 : Int)], .int .i64 0]) ∧ StR w lab w' { v with sl := sl', fr := free', lv := v.lv + 1, P := P' s } := by
  refine (takeR A n c (h.part 2) hl hg).mono ?_
  rintro e w' ⟨s, sl', free', h1, h2, B', h3, h4, h5⟩
  have hne : ∀ b, lab.own 8 b → ¬ lab.own 2 b := fun b hb hb2 => by
    have h6 : some 8 = some 2 := hb.symm.trans hb2
    injection h6 with h6
    omega
  have hr' := hr.chg h5 hne
  have hdead : thg v.sl s = none := by
    have h6 := (h.part 2).ok
    have h7 : s ∈ fsOf v.most v.sl v.fr := by rw [h1.fs]; simp
    exact (h6.fs_dead (h6.fs_lt s h7)).1 h7
  refine ⟨s, sl', free', h1, h2, ?_⟩
  refine h.chg1 2 h4 h3.lt h5 (fun m hm => ?_) h3
  match m, hm with
  | 0, _ => exact id
  | 1, _ => exact id
  | 2, hm => exact absurd rfl hm
  | 3, _ => exact id
  | 4, _ => exact id
  | 5, _ => exact id
  | 6, _ => exact id
  | 7, _ => exact id
  | 8, _ =>
    rintro ⟨h6, h7, h8⟩
    refine ⟨fun j q hj => ?_, h7, h8⟩
    rcases hP s j q hj with h9 | ⟨rfl, rfl⟩
    · obtain ⟨A', n', c', h11, h12⟩ := h6 j q h9
      refine ⟨A', n', c', ?_, h12⟩
      show thg sl' j = _
      rw [h1.th j, if_neg (fun e => by subst e; rw [hdead] at h11; cases h11)]
      exact h11
    · exact ⟨A, n, c, by show thg sl' j = _; rw [h1.th j, if_pos rfl], hr'⟩
  | 9, _ => exact id
  | m + 10, _ => exact id
end Go.Proofs.Ytahdiiaadjdmcaa

namespace Go.Proofs.Ytahdiiaadjdmcaa
open Go.RowKit

theorem ArgR.chg {w w' : World} {C : Nat → Prop} {A : Option Addr} {n : Nat} {r : List V} (h : ArgR w A n r) (hA : ∀ a, A = some a → ¬ C a.block) (hw : Chg C w w') : ArgR w' A n r := ⟨⟨h.at_.1, h.at_.2.chg hw hA⟩, h.len, h.small, h.wf⟩
/-- what a group's key must be like -/
structure KeyOk (v : StV) (k xk : Nat) (g : List Nat) (key : List V) : Prop where
  hg : v.gs[k]? = some g
  gl : g.length ≤ 1048576
  x : v.gx[k]? = some xk
  len : key.length = g.length
  ok : validR key = true
  pl : (pk key).length ≤ 4096
  one : ∀ a b, (pk key, a) ∈ v.G k → (pk key, b) ∈ v.G k → a = b
theorem ListAt.some_of {v : StV} {k xk : Nat} {g : List Nat} {key : List V} {o : Option Int} (h : ListAt v k g key o) (hk : KeyOk v k xk g key) {q : Int} (hq : (pk key, q) ∈ v.G k) : o = some q := by
  unfold ListAt at h
  rw [if_pos ⟨hk.len, hk.ok⟩] at h
  cases o with
  | none => exact absurd hq (h.2 rfl q)
  | some z => rw [hk.one z q (h.1 z rfl) hq]
theorem ListAt.none_of {v : StV} {k xk : Nat} {g : List Nat} {key : List V} {o : Option Int} (h : ListAt v k g key o) (hk : KeyOk v k xk g key) (hq : ∀ q, (pk key, q) ∉ v.G k) : o = none := by
  unfold ListAt at h
  rw [if_pos ⟨hk.len, hk.ok⟩] at h
  cases o with
  | none => rfl
  | some z => exact absurd (h.1 z rfl) (hq z)
set_option maxRecDepth 100000 in
theorem open_old {w : World} {lab : Lab} {v : StV} (h : StM w lab v) (hK : v.K ≤ 4611686018427387904) {k xk : Nat} {g : List Nat} {key : List V} (hk : KeyOk v k xk g key) {A : Option Addr} {n : Nat} (c : Nat) (ha : ArgR w A n key) {q : Nat} (hq : (pk key, (q : Int)) ∈ v.G k) :
    Calls Try.prog 84 #[.pointer (some ⟨v.x, 0, none⟩), .int .i64 k, .slice A n c] w fun e w' => e = .returned (.int .i64 q) ∧ StR w lab w' (v.tick 1) := by
  have HL := hide (slist_any h hK hk.hg hk.gl hk.x c ha (by have := hk.pl; omega))
  have HK := hide hk; have HQ := hide hq
  have hq0 : (0 : Int) ≤ (q : Int) := by omega
  clear h ha hk hq
  go_enter Try.func84, Try.ntmps84
  go_wp2_with ((with_reducible refine HL.out.mono ?_); rintro e w1 ⟨o, h1, rfl, h2⟩; obtain rfl := h1.some_of HK.out HQ.out; have S1 := hide h2; clear h1 h2; dsimp only [Option.getD])
  go_ret
  exact ⟨rfl, S1.out⟩
set_option maxRecDepth 100000 in
set_option maxHeartbeats 1000000 in
theorem open_new {w : World} {lab : Lab} {v : StV} (h : StM w lab v) (hK : v.K ≤ 4611686018427387000) {k xk : Nat} {g : List Nat} {key : List V} (hk : KeyOk v k xk g key) {A : Option Addr} {n : Nat} (c : Nat) (ha : ArgR w A n key) (hA : ∀ a, A = some a → ¬ lab.dom a.block) (hq : ∀ q, (pk key, q) ∉ v.G k) (hr : (v.G k).length < v.most) (hl : v.lL < v.most * v.L) (hg : ∀ i, genA v.sL i < 1073741824) (hm : v.most * v.L ≤ 1048576) :
    Calls Try.prog 84 #[.pointer (some ⟨v.x, 0, none⟩), .int .i64 k, .slice A n c] w fun e w' => ∃ i sl' free', TookI (v.most * v.L) v.sL v.fL (.int .i64 k) i sl' free' ∧ e = .returned (.int .i64 ((i : Int) + 1)) ∧
      StR w lab w' { v with sL := sl', fL := free', lL := v.lL + 1, lrefs := v.lrefs.put i (.agg #[.int .i64 i, .int .i64 ((genA v.sL i : Nat) + 1 : Int)]), G := updG v.G k ((pk key, (i : Int) + 1) :: v.G k), K := v.K + 3 } := by
  have HL := hide (slist_any h (by omega) hk.hg hk.gl hk.x c ha (by have := hk.pl; omega))
  have HK := hide hk; have HQ := hide hq; have HA := hide ha; have HG := hide hg; have HH := hide h; have HAside := hide hA
  clear h ha hk hq hg
  go_enter Try.func84, Try.ntmps84
  go_upto_region 4 with ((with_reducible refine HL.out.mono ?_); rintro e w1 ⟨o, h1, rfl, lab1, s1, d1, c1⟩; obtain rfl := h1.none_of HK.out HQ.out; have S1 := hide s1; have D1 := hide d1; have C1 := hide c1; clear h1 s1 d1 c1; dsimp only [Option.getD])
  have a8 : w1.cell? ⟨v.x, 8, none⟩ = some (.pointer (some ⟨v.xl, 0, none⟩)) := S1.out.str.cell 8
  have HT := hide (show Calls Try.prog 97 #[.pointer (some ⟨v.xl, 0, none⟩), .int .i64 (k : Int)] w1 (fun e w' => ∃ i sl' free', TookI (v.most * v.L) v.sL v.fL (.int .i64 (k : Int)) i sl' free' ∧ e = .returned (.tuple #[.agg #[.int .i64 i, .int .i64 ((genA v.sL i : Nat) + 1 : Int)], .int .i64 0]) ∧ StR w1 lab1 w' { v with sL := sl', fL := free', lL := v.lL + 1, K := v.K + 1 }) from S1.out.take_list (k : Int) hl HG.out)
  go_upto_region 5 with ((with_reducible refine HT.out.mono ?_); rintro e w2 ⟨i, sl', free', h1, rfl, lab2, s2, d2, c2⟩; have T2 := hide h1; have S2 := hide s2; have D2 := hide d2; have C2 := hide c2; clear h1 s2 d2 c2)
  have hi : i < v.most * v.L := by
    have h6 := (HH.out.part 5).ok
    exact h6.fs_lt i (by rw [T2.out.fs]; simp)
  have HB := hide (Blk.new w2 132 #[.int .i64 i, .int .i64 ((genA v.sL i : Int) + 1)])
  have HE := hide (Ext.alloc w2 (.cells #[.int .i64 i, .int .i64 ((genA v.sL i : Int) + 1)] 132))
  have S3 := hide (S2.out.ext HE.out)
  have hnb := hide (show ¬ lab2.dom w2.heap.size from fun ⟨j, hj⟩ => by have := S2.out.lt _ _ hj; omega)
  generalize w2.alloc (.cells #[.int .i64 i, .int .i64 ((genA v.sL i : Int) + 1)] 132) = w3 at *
  obtain ⟨b0, hb0⟩ : ∃ b0, w2.heap.size = b0 := ⟨_, rfl⟩
  rw [hb0] at HB hnb ⊢
  have a9 : w3.cell? ⟨v.x, 9, none⟩ = some (.map (some v.lm)) := S3.out.str.cell 9
  have r0 : w3.cell? ⟨b0, 0, none⟩ = some (.int .i64 i) := HB.out.cell 0
  have r1 : w3.cell? ⟨b0, 1, none⟩ = some (.int .i64 ((genA v.sL i : Int) + 1)) := HB.out.cell 1
  have a9 := cell_ext a9; have r0 := cell_ext r0; have r1 := cell_ext r1
  clear a8 HT HL S1
  refine wp_region_ext 7 (by kernel_rfl) (by kernel_rfl) (by kernel_rfl) ?_
  iterate 7
    refine wpE_k (by kernel_rfl) (by kernel_rfl) ?_
    apply Exists.intro
    refine ⟨fun w1 hw1 => ?_, fun K hK => ?_⟩
    · go_simp; first | done | rfl
    go_simp; refine hK _ _ ?_; clear hK K
  refine wpE_nil ⟨rfl, by kernel_rfl, fun w4 hw4 => ?_⟩
  simp only [EndQ, List.drop]
  clear a9 r0 r1
  have S4 := hide (S3.out.ext hw4)
  have B4 := hide (HB.out.ext hw4)
  have E4 := hide (HE.out.trans hw4)
  obtain ⟨-, nn, hn1, hmap⟩ := S4.out.part 6
  refine wpList_imap_put rfl (.tmp 29) (.tmp 31) (.tmp 32) 84 132 rfl Try.underlying84 v.lm nn v.lrefs rfl hmap (by have h9 : nn ≤ v.K + 1 := hn1; unfold maxLen; omega) i (.agg #[.int .i64 i, .int .i64 ((genA v.sL i : Int) + 1)]) rfl rfl (by omega) ?_
  intro w5 M5 T5
  have SR := S4.out.put_lref (n := nn + 1) (by have h9 : nn ≤ v.K + 1 := hn1; show nn + 1 ≤ v.K + 1 + 1; omega) M5.out T5.out
  obtain ⟨lab3, s5, d5, c5⟩ := SR
  have S5 := hide s5; have D5 := hide d5; have C5 := hide c5
  have B5 := hide (C5.out.blk B4.out hnb.out)
  have hnb5 := hide (show ¬ lab3.dom b0 from fun hd => by
    rcases D5.out _ hd with h9 | h9
    · exact hnb.out h9
    · have := B4.out.lt; omega)
  clear s5 d5 c5 hmap hw4 M5 T5 hn1
  go_upto_region 6 with fail
  obtain ⟨bg, eg, h6, h7⟩ := S5.out.index HK.out.x
  have a7 : w5.cell? ⟨v.x, 7, none⟩ = some (.slice (some ⟨bg, 0, none⟩) v.gx.length v.gC) := by have h9 := S5.out.str.cell 7; rw [← eg]; exact h9
  have r0 : w5.cell? ⟨b0, 0, none⟩ = some (.int .i64 i) := B5.out.cell 0
  have hkx := (List.getElem?_eq_some_iff.1 HK.out.x).1
  have hkx2 : (k : Int) < (v.gx.length : Int) := by omega
  have hgc1 : v.gx.length ≤ v.gC := h7.1
  have hgc2 : v.gC ≤ 9223372036854775807 := h7.2
  have hwi : IntKind.i64.wrap ((i : Int) + 1) = (i : Int) + 1 := IntWalk.i64_in _ (by omega)
  replace h6 : w5.cell? ⟨bg, k, none⟩ = some (.pointer (some ⟨xk, 0, none⟩)) := h6
  have a7 := cell_ext a7
  have h6 := cell_ext h6
  have r0 := cell_ext r0
  have HC2 := C1.out.trans C2.out fun g hg hl => (D1.out g hg).resolve_right (by omega)
  have HD2 : ∀ b, lab2.dom b → lab.dom b ∨ w.heap.size ≤ b := fun b hb => by
    rcases D2.out b hb with h9 | h9
    · exact D1.out b h9
    · exact .inr (Nat.le_trans C1.out.size h9)
  have HC5 := (HC2.trans' (Chg.of E4.out)).trans C5.out fun g hg hl => (HD2 g hg).resolve_right (by omega)
  have HA5 := hide (HA.out.chg HAside.out HC5)
  clear HC2 HD2 HC5
  have HP := hide (fun w6 (h2 : Ext w5 w6) => pack_any c (HA5.out.ext h2))
  clear h7 S4 S3 S2 B4
  refine wp_region_ext 12 (by kernel_rfl) (by kernel_rfl) (by kernel_rfl) ?_
  iterate 8
    refine wpE_k (by kernel_rfl) (by kernel_rfl) ?_
    apply Exists.intro
    refine ⟨fun w1 hw1 => ?_, fun K hK => ?_⟩
    · go_simp; first | done | rfl
    go_simp; refine hK _ _ ?_; clear hK K
  refine wpE_p [] (fun u w2 => OwnKey w2 (fun b => w5.heap.size ≤ b) u (pk key)) (fun u w2 w3 _ h2 h3 => h3.ext h2) rfl (by kernel_rfl) (fun w9 hw9 => ?_) ?_
  · clear a7 h6 r0
    simp only [LookQ]
    go_simp
    refine ⟨Ext.refl _, (HP.out w9 hw9).mono fun e w' h => ?_⟩
    obtain ⟨K, rfl, h2, h3⟩ := h
    exact ⟨K, rfl, h3, h2.mono fun b hb => Nat.le_trans hw9.size hb⟩
  iterate 3
    refine wpE_k (by kernel_rfl) (by kernel_rfl) ?_
    apply Exists.intro
    refine ⟨fun w1 hw1 => ?_, fun K hK => ?_⟩
    · go_simp; first | done | rfl
    go_simp; refine hK _ _ ?_; clear hK K
  refine wpE_nil ⟨rfl, by kernel_rfl, fun w6 hw6 => ?_⟩
  simp only [EndQ]
  intro K hK1
  obtain ⟨A1, n1, c1, rfl, hk1, hk2⟩ := hK1.at_
  simp only [List.drop]
  have S6 := hide (S5.out.ext hw6)
  have B6 := hide (B5.out.ext hw6)
  have hnb6 := hnb5
  obtain rfl := hk1.len
  have HPut := hide (show Calls Try.prog 83 #[.pointer (some ⟨xk, 0, none⟩), .slice A1 (pk key).length c1, .int .i64 ((i : Int) + 1)] w6 (fun e w' => e = .returned (.tuple #[.int .i64 0, .bool false, .int .i64 0]) ∧ StR w6 lab3 w' { v with sL := sl', fL := free', lL := v.lL + 1, lrefs := v.lrefs.put i (.agg #[.int .i64 i, .int .i64 ((genA v.sL i : Int) + 1)]), G := updG v.G k ((pk key, (i : Int) + 1) :: v.G k), K := v.K + 3 }) from S6.out.put_group (by show v.K + 1 + 1 ≤ _; omega) HK.out.x c1 ((i : Int) + 1) hk1 (S5.out.aside (Nat.le_refl _) hk2) HK.out.pl HQ.out hr)
  have E6 := hide hw6
  clear hK1 hk1 hk2 a7 h6 r0 hw6 HP
  go_upto_region 7 with ((with_reducible refine HPut.out.mono ?_); rintro e w7 ⟨rfl, lab4, s7, d7, c7⟩; have S7 := hide s7; have D7 := hide d7; have C7 := hide c7; clear s7 d7 c7)
  have r0 : w7.cell? ⟨b0, 0, none⟩ = some (.int .i64 i) := (C7.out.blk B6.out hnb6.out).cell 0
  go_wp2_with fail
  go_ret
  refine ⟨i, sl', free', T2.out, rfl, ?_⟩
  refine StR.trans (lab1 := lab1) (StR.trans (lab1 := lab2) (w1 := w2) (StR.pre (w1 := w4) (StR.trans (lab1 := lab3) (w1 := w5) (StR.pre (w1 := w6) ⟨lab4, S7.out, D7.out, C7.out⟩ E6.out) D5.out C5.out) E4.out) D2.out C2.out) D1.out C1.out

theorem zref (w : World) : (zeroValue 132).run Try.prog w = .ok (.agg #[.int .i64 0, .int .i64 0]) w := by kernel_rfl
set_option maxRecDepth 100000 in
theorem shut_kept {w : World} {lab : Lab} {v : StV} (h : StM w lab v) (hK : v.K ≤ 4611686018427387000) {k xk : Nat} {g : List Nat} {key : List V} (hk : KeyOk v k xk g key) {A : Option Addr} {n : Nat} (c : Nat) (ha : ArgR w A n key) {q : Nat} (hq : (pk key, (q : Int)) ∈ v.G k) (hql : q < v.most * v.L + 1) (hne : v.cont q ≠ []) :
    Calls Try.prog 90 #[.pointer (some ⟨v.x, 0, none⟩), .int .i64 k, .slice A n c] w fun e w' => e = .returned (.tuple #[]) ∧ StR w lab w' (v.tick 1) := by
  have HL := hide (slist_any h (by omega) hk.hg hk.gl hk.x c ha (by have := hk.pl; omega))
  have HK := hide hk; have HQ := hide hq
  have hpos : (0 : Int) < ((v.cont q).length : Int) := by
    have := List.length_pos_iff.2 hne
    omega
  clear h ha hk hq
  go_enter Try.func90, Try.ntmps90
  go_upto_region 1 with ((with_reducible refine HL.out.mono ?_); rintro e w1 ⟨o, h1, rfl, lab1, s1, d1, c1⟩; obtain rfl := h1.some_of HK.out HQ.out; have S1 := hide s1; have D1 := hide d1; have C1 := hide c1; clear h1 s1 d1 c1; dsimp only [Option.getD])
  have a10 : w1.cell? ⟨v.x, 10, none⟩ = some (.pointer (some ⟨v.xo, 0, none⟩)) := S1.out.str.cell 10
  have HN := hide (show Calls Try.prog 101 #[.pointer (some ⟨v.xo, 0, none⟩), .int .i64 q] w1 (fun e w' => e = .returned (.tuple #[.int .i64 (v.cont q).length, .int .i64 0]) ∧ StR w1 lab1 w' (v.tick 1)) from S1.out.clen hql)
  go_wp2_with ((with_reducible refine HN.out.mono ?_); rintro e w2 ⟨rfl, h2⟩; have S2 := hide h2; clear h2)
  refine bodyPost_ret (v := .tuple #[]) (by simp [results, Try.results90, go_sem]) rfl ?_
  exact ⟨rfl, S2.out.trans D1.out C1.out⟩
set_option maxRecDepth 100000 in
set_option maxHeartbeats 1000000 in
theorem shut_gone {w : World} {lab : Lab} {v : StV} (h : StM w lab v) (hK : v.K ≤ 4611686018427387000) {k xk : Nat} {g : List Nat} {key : List V} (hk : KeyOk v k xk g key) {A : Option Addr} {n : Nat} (c : Nat) (ha : ArgR w A n key) (hA : ∀ a, A = some a → ¬ lab.dom a.block) {i gn : Nat} {u : Value} (hq : (pk key, (i : Int) + 1) ∈ v.G k) (hi : i < v.most * v.L) (hm : v.most * v.L ≤ 1048576) (hne : v.cont (i + 1) = [])
    (hs : v.sL[i]? = some (gn, some u)) (hgn : gn < 1073741824) (hr : v.lrefs i = some (.agg #[.int .i64 i, .int .i64 gn])) :
    Calls Try.prog 90 #[.pointer (some ⟨v.x, 0, none⟩), .int .i64 k, .slice A n c] w fun e w' => e = .returned (.tuple #[]) ∧ ∃ E', List.Perm (v.G k) ((pk key, (i : Int) + 1) :: E') ∧ StR w lab w' { v with sL := v.sL.set i (gn, none), fL := v.fL ++ [i], lL := v.lL - 1, lrefs := v.lrefs.del i, G := updG v.G k E', K := v.K + 3 } := by
  have HL := hide (slist_any h (by omega) hk.hg hk.gl hk.x c ha (by have := hk.pl; omega))
  have HK := hide hk; have HQ := hide hq; have HA := hide ha; have HAside := hide hA
  have HS := hide hs; have HRf := hide hr
  have hwi : IntKind.i64.wrap ((i : Int)) = (i : Int) := IntWalk.i64_in _ (by omega)
  clear h ha hk hq hs hr hA
  go_enter Try.func90, Try.ntmps90
  go_upto_region 1 with ((with_reducible refine HL.out.mono ?_); rintro e w1 ⟨o, h1, rfl, lab1, s1, d1, c1⟩; obtain rfl := h1.some_of HK.out HQ.out; have S1 := hide s1; have D1 := hide d1; have C1 := hide c1; clear h1 s1 d1 c1; dsimp only [Option.getD])
  have a10 : w1.cell? ⟨v.x, 10, none⟩ = some (.pointer (some ⟨v.xo, 0, none⟩)) := S1.out.str.cell 10
  have HN := hide (show Calls Try.prog 101 #[.pointer (some ⟨v.xo, 0, none⟩), .int .i64 ((i : Int) + 1)] w1 (fun e w' => e = .returned (.tuple #[.int .i64 0, .int .i64 0]) ∧ StR w1 lab1 w' (v.tick 1)) from by
    have h9 := S1.out.clen (n := i + 1) (by show i + 1 < v.most * v.L + 1; omega)
    rw [show (v.tick 1).cont (i + 1) = [] from hne] at h9
    exact h9)
  go_upto_region 3 with ((with_reducible refine HN.out.mono ?_); rintro e w2 ⟨rfl, lab2, s2, d2, c2⟩; have S2 := hide s2; have D2 := hide d2; have C2 := hide c2; clear s2 d2 c2)
  have a8 : w2.cell? ⟨v.x, 8, none⟩ = some (.pointer (some ⟨v.xl, 0, none⟩)) := S2.out.str.cell 8
  have a9 : w2.cell? ⟨v.x, 9, none⟩ = some (.map (some v.lm)) := S2.out.str.cell 9
  have hlk : ∀ w3, Ext w2 w3 → (Instr.lookup 84 (.map (some v.lm)) (.int .i64 (i : Int)) false).run Try.prog w3 = .ok (.agg #[.int .i64 i, .int .i64 gn]) w3 := fun w3 h3 => by
    obtain ⟨-, nn, -, hmap⟩ := (S2.out.ext h3).part 6
    have h9 := run_imap 84 132 Try.underlying84 (z := .agg #[.int .i64 0, .int .i64 0]) (fun w => zref w) hmap (k := i) (by omega)
    rw [show (v.tick 1).lrefs i = _ from HRf.out] at h9
    exact h9
  have a8 := cell_ext a8; have a9 := cell_ext a9
  refine wp_region_ext 11 (by kernel_rfl) (by kernel_rfl) (by kernel_rfl) ?_
  iterate 11
    refine wpE_k (by kernel_rfl) (by kernel_rfl) ?_
    apply Exists.intro
    refine ⟨fun w1 hw1 => ?_, fun K hK => ?_⟩
    · go_simp; first | done | rfl
    go_simp; refine hK _ _ ?_; clear hK K
  refine wpE_nil ⟨rfl, by kernel_rfl, fun w3 hw3 => ?_⟩
  simp only [EndQ, List.drop]
  clear a8 a9 hlk
  have S3 := hide (S2.out.ext hw3)
  have HGv := hide (show Calls Try.prog 102 #[.pointer (some ⟨v.xl, 0, none⟩), .agg #[.int .i64 i, .int .i64 gn]] w3 (fun e w' => e = .returned (.int .i64 0) ∧ StR w3 lab2 w' { v with sL := v.sL.set i (gn, none), fL := v.fL ++ [i], lL := v.lL - 1, K := v.K + 1 }) from S3.out.give_list HS.out hgn)
  go_upto_region 4 with ((with_reducible refine HGv.out.mono ?_); rintro e w4 ⟨rfl, lab4, s4, d4, c4⟩; have S4 := hide s4; have D4 := hide d4; have C4 := hide c4; clear s4 d4 c4)
  have a9 : w4.cell? ⟨v.x, 9, none⟩ = some (.map (some v.lm)) := S4.out.str.cell 9
  obtain ⟨-, nn, hn1, hmap⟩ := S4.out.part 6
  have HM := hide hmap
  have hnn := hide (show nn ≤ v.K + 1 from hn1)
  clear hmap hn1 HGv HN HL a10
  go_upto_region 5 with (at_delete; refine wpList_imap_del rfl (.tmp 39) (.tmp 41) 84 132 rfl Try.underlying84 v.lm nn v.lrefs rfl HM.out i rfl (by omega) ?_; intro w5 M5 T5)
  obtain ⟨lab5, s5, d5, c5⟩ := S4.out.put_lref (n := nn) (by have := hnn.out; show nn ≤ v.K + 1 + 1; omega) M5.out T5.out
  have S5 := hide s5; have D5 := hide d5; have C5 := hide c5
  clear s5 d5 c5 M5 T5 a9 HM
  obtain ⟨bg, eg, h6, h7⟩ := S5.out.index HK.out.x
  have a7 : w5.cell? ⟨v.x, 7, none⟩ = some (.slice (some ⟨bg, 0, none⟩) v.gx.length v.gC) := by have h9 := S5.out.str.cell 7; rw [← eg]; exact h9
  have hkx := (List.getElem?_eq_some_iff.1 HK.out.x).1
  have hkx2 : (k : Int) < (v.gx.length : Int) := by omega
  have hgc1 : v.gx.length ≤ v.gC := h7.1
  have hgc2 : v.gC ≤ 9223372036854775807 := h7.2
  replace h6 : w5.cell? ⟨bg, k, none⟩ = some (.pointer (some ⟨xk, 0, none⟩)) := h6
  have a7 := cell_ext a7
  have h6 := cell_ext h6
  have R5 := StR.trans (lab1 := lab1) (StR.trans (lab1 := lab2) (w1 := w2) (StR.pre (w1 := w3) (StR.trans (lab1 := lab4) (w1 := w4) ⟨lab5, S5.out, D5.out, C5.out⟩ D4.out C4.out) hw3) D2.out C2.out) D1.out C1.out
  have HA5 := hide (HA.out.chg HAside.out (R5.elim fun _ h => h.2.2))
  have HP := hide (fun w6 (h2 : Ext w5 w6) => pack_any c (HA5.out.ext h2))
  clear h7 R5
  refine wp_region_ext 9 (by kernel_rfl) (by kernel_rfl) (by kernel_rfl) ?_
  iterate 8
    refine wpE_k (by kernel_rfl) (by kernel_rfl) ?_
    apply Exists.intro
    refine ⟨fun w1 hw1 => ?_, fun K hK => ?_⟩
    · go_simp; first | done | rfl
    go_simp; refine hK _ _ ?_; clear hK K
  refine wpE_p [] (fun u w2 => OwnKey w2 (fun b => w5.heap.size ≤ b) u (pk key)) (fun u w2 w3 _ h2 h3 => h3.ext h2) rfl (by kernel_rfl) (fun w9 hw9 => ?_) ?_
  · clear a7 h6
    simp only [LookQ]
    go_simp
    refine ⟨Ext.refl _, (HP.out w9 hw9).mono fun e w' h => ?_⟩
    obtain ⟨K, rfl, h2, h3⟩ := h
    exact ⟨K, rfl, h3, h2.mono fun b hb => Nat.le_trans hw9.size hb⟩
  refine wpE_nil ⟨rfl, by kernel_rfl, fun w6 hw6 => ?_⟩
  simp only [EndQ]
  intro K hK1
  obtain ⟨A1, n1, c1, rfl, hk1, hk2⟩ := hK1.at_
  simp only [List.drop]
  have S6 := hide (S5.out.ext hw6)
  obtain rfl := hk1.len
  have HDel := hide (show Calls Try.prog 91 #[.pointer (some ⟨xk, 0, none⟩), .slice A1 (pk key).length c1] w6 (fun e w' => e = .returned (.tuple #[.int .i64 ((i : Int) + 1), .bool true]) ∧ ∃ E', List.Perm (v.G k) ((pk key, (i : Int) + 1) :: E') ∧ StR w6 lab5 w' { v with sL := v.sL.set i (gn, none), fL := v.fL ++ [i], lL := v.lL - 1, lrefs := v.lrefs.del i, G := updG v.G k E', K := v.K + 3 }) from S6.out.del_group (by show v.K + 1 + 1 ≤ _; omega) HK.out.x c1 hk1 (S5.out.aside (Nat.le_refl _) hk2) (by have := HK.out.pl; omega) HQ.out HK.out.one)
  have E6 := hide hw6; have E3 := hide hw3
  clear hK1 hk1 hk2 a7 h6 hw6 HP hw3
  go_wp2_with ((with_reducible refine HDel.out.mono ?_); rintro e w7 ⟨rfl, E', hE', lab7, s7, d7, c7⟩; have P7 := hide hE'; have S7 := hide s7; have D7 := hide d7; have C7 := hide c7; clear hE' s7 d7 c7)
  refine bodyPost_end (v := .tuple #[]) (by simp [results, Try.results90, go_sem]) rfl ?_
  refine ⟨rfl, E', P7.out, ?_⟩
  exact StR.trans (lab1 := lab1) (StR.trans (lab1 := lab2) (w1 := w2) (StR.pre (w1 := w3) (StR.trans (lab1 := lab4) (w1 := w4) (StR.trans (lab1 := lab5) (w1 := w5) (StR.pre (w1 := w6) ⟨lab7, S7.out, D7.out, C7.out⟩ E6.out) D5.out C5.out) D4.out C4.out) E3.out) D2.out C2.out) D1.out C1.out
end Go.Proofs.Ytahdiiaadjdmcaa
