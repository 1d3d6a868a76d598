/-
  chain: the lists in memory; linked, list, Next, Ends, Len (where they only read).
  chain: loose and list: places that are made if need be.
  chain: insert.
  chain: Append, Before.
  chain: New, Next, Ends, Len.
-/
import Derived.Test.YtahdiiaadjdmcaaGaA
import Derived.IntWalk
import Derived.Deep.Cut
import Derived.WalkMore
namespace Go.Proofs.Ytahdiiaadjdmcaa
open Go.RowKit

structure ChAt (w : World) (B : Nat → Prop) (x cells lists : Nat) (LA : Option Addr) (cA : Nat) (LE : Option Addr) (cE : Nat) (at_ en : List L3) : Prop where
  blk : Blk w x 128 #[.int .i64 cells, .slice LA at_.length cA, .int .i64 lists, .slice LE en.length cE]
  oA : OwnH w B 122 3 at_.length (.slice LA at_.length cA) (l3C at_)
  oE : OwnH w B 120 3 en.length (.slice LE en.length cE) (l3C en)
  inB : B x
section
variable {w w' : World} {B C : Nat → Prop} {x cells lists : Nat} {LA : Option Addr} {cA : Nat} {LE : Option Addr} {cE : Nat} {at_ en : List L3}
theorem ChAt.chg (h : ChAt w B x cells lists LA cA LE cE at_ en) (hw : Chg C w w') (hC : ∀ g, B g → ¬ C g) : ChAt w' B x cells lists LA cA LE cE at_ en :=
  ⟨hw.blk h.blk (hC x h.inB), h.oA.chg hw hC, h.oE.chg hw hC, h.inB⟩
theorem ChAt.ext (h : ChAt w B x cells lists LA cA LE cE at_ en) (hw : Ext w w') : ChAt w' B x cells lists LA cA LE cE at_ en := h.chg (C := fun _ => False) (Chg.of hw) fun _ _ x => x
theorem ChAt.mono (h : ChAt w B x cells lists LA cA LE cE at_ en) (hC : ∀ g, B g → C g) : ChAt w C x cells lists LA cA LE cE at_ en := ⟨h.blk, h.oA.mono hC, h.oE.mono hC, hC _ h.inB⟩
theorem ChAt.lnk (h : ChAt w B x cells lists LA cA LE cE at_ en) {c : Nat} {p : L3} (hp : at_[c]? = some p) :
    ∃ g, LA = some ⟨g, 0, none⟩ ∧ B g ∧ g ≠ x ∧ g < w.heap.size ∧ w.cell? ⟨g, c * 3, none⟩ = some (.int .i64 p.1) ∧ w.cell? ⟨g, c * 3 + 1, none⟩ = some (.int .i64 p.2.1) ∧ w.cell? ⟨g, c * 3 + 2, none⟩ = some (.int .i64 p.2.2) ∧ ∀ j, w.frozen? ⟨g, j, none⟩ = false := by
  obtain ⟨g, h1, h2, h3, h4, h5⟩ := h.oA.at_ (by have := (List.getElem?_eq_some_iff.1 hp).1; omega)
  obtain ⟨k0, k1, k2⟩ := l3C_get hp
  refine ⟨g, h1, h2, fun e => ?_, h3, h4 _ _ k0, h4 _ _ k1, h4 _ _ k2, h5⟩
  exact own_type h.oA.own h.blk (by decide) (by rw [h1, ← e]; rfl)
theorem ChAt.end_ (h : ChAt w B x cells lists LA cA LE cE at_ en) {c : Nat} {p : L3} (hp : en[c]? = some p) :
    ∃ g, LE = some ⟨g, 0, none⟩ ∧ B g ∧ g ≠ x ∧ g < w.heap.size ∧ w.cell? ⟨g, c * 3, none⟩ = some (.int .i64 p.1) ∧ w.cell? ⟨g, c * 3 + 1, none⟩ = some (.int .i64 p.2.1) ∧ w.cell? ⟨g, c * 3 + 2, none⟩ = some (.int .i64 p.2.2) ∧ ∀ j, w.frozen? ⟨g, j, none⟩ = false := by
  obtain ⟨g, h1, h2, h3, h4, h5⟩ := h.oE.at_ (by have := (List.getElem?_eq_some_iff.1 hp).1; omega)
  obtain ⟨k0, k1, k2⟩ := l3C_get hp
  refine ⟨g, h1, h2, fun e => ?_, h3, h4 _ _ k0, h4 _ _ k1, h4 _ _ k2, h5⟩
  exact own_type h.oE.own h.blk (by decide) (by rw [h1, ← e]; rfl)
theorem ChAt.apart (h : ChAt w B x cells lists LA cA LE cE at_ en) {g k : Nat} (h1 : LA = some ⟨g, 0, none⟩) (h2 : LE = some ⟨k, 0, none⟩) : g ≠ k := fun e => by
  subst e
  obtain ⟨cs, hb⟩ : ∃ cs, Blk w g 120 cs := by
    rcases h.oE.own.2 with ⟨h3, _⟩ | ⟨g', cap, cur, h3, _, h4, _⟩
    · rw [h2] at h3; cases h3
    · rw [h2] at h3
      injection h3 with h3 _ _
      injection h3 with h3
      injection h3 with h3
      subst h3
      exact ⟨cur, h4⟩
  exact own_type h.oA.own hb (by decide) (by rw [h1]; rfl)
end

set_option maxRecDepth 100000 in
theorem linked_any {w : World} {B : Nat → Prop} {x cells lists : Nat} {LA : Option Addr} {cA : Nat} {LE : Option Addr} {cE : Nat} {at_ en : List L3} (h : ChAt w B x cells lists LA cA LE cE at_ en) {c : Nat} {p : L3} (hp : at_[c]? = some p) (h0 : p.1 ≠ 0) (hc : c < cells) :
    Calls Try.prog 98 #[.pointer (some ⟨x, 0, none⟩), .int .i64 c] w fun e w' => w' = w ∧ ∃ g, LA = some ⟨g, 0, none⟩ ∧ e = .returned (.tuple #[.pointer (some ⟨g, c * 3, none⟩), .int .i64 0]) := by
  obtain ⟨g, rfl, -, -, -, k0, -, -, -⟩ := h.lnk hp
  have a0 : w.cell? ⟨x, 0, none⟩ = some (.int .i64 cells) := h.blk.cell 0
  have a1 : w.cell? ⟨x, 1, none⟩ = some (.slice (some ⟨g, 0, none⟩) at_.length cA) := h.blk.cell 1
  have hl := (List.getElem?_eq_some_iff.1 hp).1
  have hz : (p.1 == 0) = false := by simpa using h0
  have hcl : at_.length ≤ 9223372036854775807 := by
    rcases h.oA.own.2 with ⟨h3, _⟩ | ⟨g', cap, cur, h3, _, h4, h5, h6, _⟩
    · cases h3
    · unfold maxLen at h6; omega
  clear h hp
  go_enter Try.func98, Try.ntmps98
  go_wp2_with fail
  go_ret2
  exact ⟨rfl, g, rfl, rfl⟩
end Go.Proofs.Ytahdiiaadjdmcaa

namespace Go.Proofs.Ytahdiiaadjdmcaa
open Go.RowKit

theorem infoLk : (Try.prog.info? 122).map (fun i => (i.zero, i.size, i.bytes)) = some (some (.agg #[.int .i64 0, .int .i64 0, .int .i64 0]), 3, 24) := by kernel_rfl
theorem infoEn : (Try.prog.info? 120).map (fun i => (i.zero, i.size, i.bytes)) = some (some (.agg #[.int .i64 0, .int .i64 0, .int .i64 0]), 3, 24) := by kernel_rfl
/-- how long the slice in a cell is -/
def lenAt (x j : Nat) (w : World) : Nat := match w.cell? ⟨x, j, none⟩ with | some (.slice _ n _) => n | _ => 0
theorem lenAt_eq {x j n c : Nat} {A : Option Addr} {w : World} (h : w.cell? ⟨x, j, none⟩ = some (.slice A n c)) : lenAt x j w = n := by unfold lenAt; rw [h]
/-- the lists with so many places more -/
structure ChG (w0 w : World) (B : Nat → Prop) (x cells lists : Nat) (LA : Option Addr) (cA : Nat) (LE : Option Addr) (cE : Nat) (at_ en : List L3) (cont : Nat → List Nat) : Prop where
  mem : ∃ B', ChAt w B' x cells lists LA cA LE cE at_ en ∧ (∀ b, B' b → B b ∨ w0.heap.size ≤ b) ∧ (∀ b, B' b → b < w.heap.size)
  ok : ChOk cells lists at_ en cont
  chg : Chg B w0 w
theorem ChG.blk {w0 w : World} {B : Nat → Prop} {x cells lists : Nat} {LA : Option Addr} {cA : Nat} {LE : Option Addr} {cE : Nat} {at_ en : List L3} {cont : Nat → List Nat} (h : ChG w0 w B x cells lists LA cA LE cE at_ en cont) : Blk w x 128 #[.int .i64 cells, .slice LA at_.length cA, .int .i64 lists, .slice LE en.length cE] := by
  obtain ⟨B', h1, _⟩ := h.mem
  exact h1.blk
/-- one zero place more -/
theorem ChG.pushAt {w0 w w8 : World} {B B' : Nat → Prop} {x cells lists : Nat} {LA : Option Addr} {cA : Nat} {LE : Option Addr} {cE : Nat} {at_ en : List L3} {cont : Nat → List Nat} {A8 : Option Addr} {c8 : Nat} {o : Obj}
    (h1 : ChAt w B' x cells lists LA cA LE cE at_ en) (h2 : ∀ b, B' b → B b ∨ w0.heap.size ≤ b) (h3 : ChOk cells lists at_ en cont) (h4 : Chg B w0 w) (hl : at_.length < cells)
    (own8 : OwnH w8 (fun b => B' b ∨ b = (w.alloc o).heap.size) 122 3 (at_.length + 1) (.slice A8 (at_.length + 1) c8) (l3C at_ ++ [.int .i64 0, .int .i64 0, .int .i64 0])) (G8 : (w.alloc o).grownBy w8 (Value.slice LA at_.length cA).ownBlock) (C8 : Chg B' (w.alloc o) w8) :
    ChG w0 (w8.setCell ⟨x, 1, none⟩ (.slice A8 (at_.length + 1) c8)) B x cells lists A8 c8 LE cE (at_ ++ [(0, 0, 0)]) en cont := by
  have hx := h1.ext (Ext.alloc w o)
  have hb8 := hx.blk.grown G8 (own_ne_blk hx.oA.own hx.blk (by decide))
  have hE8 := hx.oE.grown hx.oA.own (by decide) G8
  have hs : w.heap.size + 1 = (w.alloc o).heap.size := (World.size_alloc w o).symm
  have hC : Chg B w0 w8 := (h4.trans' (Chg.of (Ext.alloc w o))).trans C8 fun g hg hlt => (h2 g hg).resolve_right (by omega)
  have hw0 := h4.size
  have hB' : ∀ b, (B' b ∨ b = (w.alloc o).heap.size) → B b ∨ w0.heap.size ≤ b := fun b hb => by
    rcases hb with hb | hb
    · exact h2 b hb
    · right; omega
  refine ⟨⟨fun b => (B' b ∨ b = (w.alloc o).heap.size) ∧ b < w8.heap.size, ⟨?_, ?_, ?_, .inl h1.inB, ?_⟩, fun b hb => hB' b hb.1, fun b hb => by simpa using hb.2⟩, h3.growAt hl, hC.setCell (h2 x h1.inB) _⟩
  · have := hb8.set_ 1 (.slice A8 (at_.length + 1) c8)
    rw [List.length_append]
    simpa using this
  · rw [List.length_append, l3C_append]
    have := own8.far hb8 (by decide) 1 (.slice A8 (at_.length + 1) c8)
    exact ⟨this.own, fun g hg => ⟨this.inB g hg, own8.lt g hg⟩⟩
  · have := (hE8.mono (C := fun b => B' b ∨ b = (w.alloc o).heap.size) fun g hg => .inl hg).far hb8 (by decide) 1 (.slice A8 (at_.length + 1) c8)
    exact ⟨this.own, fun g hg => ⟨this.inB g hg, hE8.lt g hg⟩⟩
  · exact hb8.lt

set_option maxRecDepth 100000 in
set_option maxHeartbeats 1000000 in
theorem loose_any {w : World} {B : Nat → Prop} {x cells lists : Nat} {LA : Option Addr} {cA : Nat} {LE : Option Addr} {cE : Nat} {at_ en : List L3} {cont : Nat → List Nat} (h : ChAt w B x cells lists LA cA LE cE at_ en) (hlt : ∀ b, B b → b < w.heap.size) (hok : ChOk cells lists at_ en cont) {c : Nat} (hc : c < cells) (hl : ∀ n, c ∉ cont n) (hm : cells ≤ 1048576) :
    Calls Try.prog 99 #[.pointer (some ⟨x, 0, none⟩), .int .i64 c] w fun e w' => ∃ (g cA' : Nat) (at' : List L3), e = .returned (.tuple #[.pointer (some ⟨g, c * 3, none⟩), .int .i64 0]) ∧ ChG w w' B x cells lists (some ⟨g, 0, none⟩) cA' LE cE at' en cont ∧ c < at'.length := by
  obtain ⟨i0, hi0, hz0, hz1, hz2⟩ := info_parts infoLk
  have HG := hide (show ChG w w B x cells lists LA cA LE cE at_ en cont from ⟨⟨B, h, fun _ hb => .inl hb, hlt⟩, hok, Chg.refl _ _⟩)
  have a0 : w.cell? ⟨x, 0, none⟩ = some (.int .i64 cells) := h.blk.cell 0
  have hcl := hide hok.cl
  clear h hlt hok
  go_enter Try.func99, Try.ntmps99
  go_wp2_with fail
  clear a0
  have e1 : decide ((c : Int) < 0) = false := by simp
  have e2 : decide (cells ≤ c) = false := by simp; omega
  simp only [e1, e2, Bool.or_false]
  clear e1 e2
  go_loopw [16] (fun _ w' => ∃ (LA' : Option Addr) (cA' : Nat) (at' : List L3), Hid (ChG w w' B x cells lists LA' cA' LE cE at' en cont)) (fun _ w' => c + 1 - lenAt x 1 w')
  case atStart => exact ⟨LA, cA, at_, HG.out⟩
  case round =>
    clear HG hcl
    obtain ⟨LA', cA', at', hG⟩ := hrel
    obtain ⟨B', h1, h2, h3⟩ := hG.out.mem
    have HAT := hide h1; have HB := hide (And.intro h2 h3)
    have a1 : wr.cell? ⟨x, 1, none⟩ = some (.slice LA' at'.length cA') := h1.blk.cell 1
    have hlen := hide (lenAt_eq a1)
    have hcl := hG.out.ok.cl
    by_cases hcl2 : c < at'.length
    · obtain ⟨g, rfl, -, -, -, k0, -, -, -⟩ := h1.lnk (List.getElem?_eq_getElem hcl2)
      have hz := hG.out.ok.loose c at'[c] (List.getElem?_eq_getElem hcl2) hl
      rw [hz] at k0
      clear h1 h2 h3 hz
      go_wp2_with fail
      go_ret2
      exact ⟨g, cA', at', rfl, hG.out, hcl2⟩
    · have HS := hide (show Sl (wr.alloc (.cells #[.int .i64 0, .int .i64 0, .int .i64 0] 122)) (some ⟨wr.heap.size, 0, none⟩) 1 3 [.int .i64 0, .int .i64 0, .int .i64 0] from (Blk.new wr _ _).sl rfl)
      have HONE := hide (show OneCells [Value.int .i64 0, .int .i64 0, .int .i64 0] from fun v hv => by simp at hv; rw [hv]; rfl)
      have HO := hide (h1.ext (Ext.alloc wr (.cells #[.int .i64 0, .int .i64 0, .int .i64 0] 122)))
      clear h1 h2 h3
      go_wp2_with (at_builtin; refine wpList_append_b rfl (.tmp 27) (.tmp 29) _ rfl B' 122 i0 _ 3 24 Try.underlying123 hi0 hz0 hz1 hz2 rfl (by omega) (.slice LA' at'.length cA') at'.length (l3C at') rfl HO.out.oA _ 1 1 _ rfl HS.out HONE.out (by unfold maxLen; omega) (by omega) ?_; intro A8 c8 w8 own8 G8 C8; have hb8 := (HO.out.blk.grown G8.out (own_ne_blk HO.out.oA.own HO.out.blk (by decide))); have f8 := hb8.frozen 1; have v8 := hb8.cell 1; clear hb8)
      go_roundw
      case rel => exact ⟨A8, c8, _, ChG.pushAt HAT.out HB.out.1 hG.out.ok hG.out.chg (by omega) own8.out G8.out C8.out⟩
      case measure =>
        have h9 := (ChG.pushAt HAT.out HB.out.1 hG.out.ok hG.out.chg (by omega) own8.out G8.out C8.out).blk
        have h10 : (w8.setCell ⟨x, 1, none⟩ (.slice A8 (at'.length + 1) c8)).cell? ⟨x, 1, none⟩ = some (.slice A8 (at' ++ [(0, 0, 0)]).length c8) := h9.cell 1
        rw [hlen.out, lenAt_eq h10, List.length_append]
        simp; omega
/-- one empty list more -/
theorem ChG.pushEn {w0 w w8 : World} {B B' : Nat → Prop} {x cells lists : Nat} {LA : Option Addr} {cA : Nat} {LE : Option Addr} {cE : Nat} {at_ en : List L3} {cont : Nat → List Nat} {A8 : Option Addr} {c8 : Nat} {o : Obj}
    (h1 : ChAt w B' x cells lists LA cA LE cE at_ en) (h2 : ∀ b, B' b → B b ∨ w0.heap.size ≤ b) (h3 : ChOk cells lists at_ en cont) (h4 : Chg B w0 w) (hl : en.length < lists)
    (own8 : OwnH w8 (fun b => B' b ∨ b = (w.alloc o).heap.size) 120 3 (en.length + 1) (.slice A8 (en.length + 1) c8) (l3C en ++ [.int .i64 (-1), .int .i64 (-1), .int .i64 0])) (G8 : (w.alloc o).grownBy w8 (Value.slice LE en.length cE).ownBlock) (C8 : Chg B' (w.alloc o) w8) :
    ChG w0 (w8.setCell ⟨x, 3, none⟩ (.slice A8 (en.length + 1) c8)) B x cells lists LA cA A8 c8 at_ (en ++ [(-1, -1, 0)]) cont := by
  have hx := h1.ext (Ext.alloc w o)
  have hb8 := hx.blk.grown G8 (own_ne_blk hx.oE.own hx.blk (by decide))
  have hE8 := hx.oA.grown hx.oE.own (by decide) G8
  have hs : w.heap.size + 1 = (w.alloc o).heap.size := (World.size_alloc w o).symm
  have hC : Chg B w0 w8 := (h4.trans' (Chg.of (Ext.alloc w o))).trans C8 fun g hg hlt => (h2 g hg).resolve_right (by omega)
  have hw0 := h4.size
  have hB' : ∀ b, (B' b ∨ b = (w.alloc o).heap.size) → B b ∨ w0.heap.size ≤ b := fun b hb => by
    rcases hb with hb | hb
    · exact h2 b hb
    · right; omega
  refine ⟨⟨fun b => (B' b ∨ b = (w.alloc o).heap.size) ∧ b < w8.heap.size, ⟨?_, ?_, ?_, .inl h1.inB, ?_⟩, fun b hb => hB' b hb.1, fun b hb => by simpa using hb.2⟩, h3.growEn hl, hC.setCell (h2 x h1.inB) _⟩
  · have := hb8.set_ 3 (.slice A8 (en.length + 1) c8)
    rw [List.length_append]
    simpa using this
  · have := (hE8.mono (C := fun b => B' b ∨ b = (w.alloc o).heap.size) fun g hg => .inl hg).far hb8 (by decide) 3 (.slice A8 (en.length + 1) c8)
    exact ⟨this.own, fun g hg => ⟨this.inB g hg, hE8.lt g hg⟩⟩
  · rw [List.length_append, l3C_append]
    have := own8.far hb8 (by decide) 3 (.slice A8 (en.length + 1) c8)
    exact ⟨this.own, fun g hg => ⟨this.inB g hg, own8.lt g hg⟩⟩
  · exact hb8.lt

set_option maxRecDepth 100000 in
set_option maxHeartbeats 1000000 in
theorem list_any {w : World} {B : Nat → Prop} {x cells lists : Nat} {LA : Option Addr} {cA : Nat} {LE : Option Addr} {cE : Nat} {at_ en : List L3} {cont : Nat → List Nat} (h : ChAt w B x cells lists LA cA LE cE at_ en) (hlt : ∀ b, B b → b < w.heap.size) (hok : ChOk cells lists at_ en cont) {c : Nat} (hc : c < lists) (hm : lists ≤ 1048577) :
    Calls Try.prog 44 #[.pointer (some ⟨x, 0, none⟩), .int .i64 c] w fun e w' => ∃ (g cE' : Nat) (en' : List L3), e = .returned (.tuple #[.pointer (some ⟨g, c * 3, none⟩), .int .i64 0]) ∧ ChG w w' B x cells lists LA cA (some ⟨g, 0, none⟩) cE' at_ en' cont ∧ c < en'.length := by
  obtain ⟨i0, hi0, hz0, hz1, hz2⟩ := info_parts infoEn
  have HG := hide (show ChG w w B x cells lists LA cA LE cE at_ en cont from ⟨⟨B, h, fun _ hb => .inl hb, hlt⟩, hok, Chg.refl _ _⟩)
  have a0 : w.cell? ⟨x, 2, none⟩ = some (.int .i64 lists) := h.blk.cell 2
  have hcl := hide hok.el
  clear h hlt hok
  go_enter Try.func44, Try.ntmps44
  go_wp2_with fail
  clear a0
  have e1 : decide ((c : Int) < 0) = false := by simp
  have e2 : decide (lists ≤ c) = false := by simp; omega
  simp only [e1, e2, Bool.or_false]
  clear e1 e2
  go_loopw [16] (fun _ w' => ∃ (LE' : Option Addr) (cE' : Nat) (en' : List L3), Hid (ChG w w' B x cells lists LA cA LE' cE' at_ en' cont)) (fun _ w' => c + 1 - lenAt x 3 w')
  case atStart => exact ⟨LE, cE, en, HG.out⟩
  case round =>
    clear HG hcl
    obtain ⟨LE', cE', en', hG⟩ := hrel
    obtain ⟨B', h1, h2, h3⟩ := hG.out.mem
    have HAT := hide h1; have HB := hide (And.intro h2 h3)
    have a1 : wr.cell? ⟨x, 3, none⟩ = some (.slice LE' en'.length cE') := h1.blk.cell 3
    have hlen := hide (lenAt_eq a1)
    have hcl := hG.out.ok.el
    by_cases hcl2 : c < en'.length
    · obtain ⟨g, rfl, -, -, -, k0, -, -, -⟩ := h1.end_ (List.getElem?_eq_getElem hcl2)
      clear h1 h2 h3
      go_wp2_with fail
      go_ret2
      exact ⟨g, cE', en', rfl, hG.out, hcl2⟩
    · have HS := hide (show Sl (wr.alloc (.cells #[.int .i64 (-1), .int .i64 (-1), .int .i64 0] 120)) (some ⟨wr.heap.size, 0, none⟩) 1 3 [.int .i64 (-1), .int .i64 (-1), .int .i64 0] from (Blk.new wr _ _).sl rfl)
      have HONE := hide (show OneCells [Value.int .i64 (-1), .int .i64 (-1), .int .i64 0] from fun v hv => by
        simp at hv
        rcases hv with rfl | rfl <;> rfl)
      have HO := hide (h1.ext (Ext.alloc wr (.cells #[.int .i64 (-1), .int .i64 (-1), .int .i64 0] 120)))
      clear h1 h2 h3
      go_wp2_with (at_builtin; refine wpList_append_b rfl (.tmp 27) (.tmp 29) _ rfl B' 120 i0 _ 3 24 Try.underlying126 hi0 hz0 hz1 hz2 rfl (by omega) (.slice LE' en'.length cE') en'.length (l3C en') rfl HO.out.oE _ 1 1 _ rfl HS.out HONE.out (by unfold maxLen; omega) (by omega) ?_; intro A8 c8 w8 own8 G8 C8; have hb8 := (HO.out.blk.grown G8.out (own_ne_blk HO.out.oE.own HO.out.blk (by decide))); have f8 := hb8.frozen 3; have v8 := hb8.cell 3; clear hb8)
      go_roundw
      case rel => exact ⟨A8, c8, _, ChG.pushEn HAT.out HB.out.1 hG.out.ok hG.out.chg (by omega) own8.out G8.out C8.out⟩
      case measure =>
        have h9 := (ChG.pushEn HAT.out HB.out.1 hG.out.ok hG.out.chg (by omega) own8.out G8.out C8.out).blk
        have h10 : (w8.setCell ⟨x, 3, none⟩ (.slice A8 (en'.length + 1) c8)).cell? ⟨x, 3, none⟩ = some (.slice A8 (en' ++ [(-1, -1, 0)]).length c8) := h9.cell 3
        rw [hlen.out, lenAt_eq h10, List.length_append]
        simp; omega
end Go.Proofs.Ytahdiiaadjdmcaa

namespace Go.Proofs.Ytahdiiaadjdmcaa
open Go.RowKit

section
variable {w : World} {B : Nat → Prop} {x cells lists : Nat} {LA : Option Addr} {cA : Nat} {LE : Option Addr} {cE : Nat} {at_ en : List L3}
theorem own_blkB {e : TypeId} {s n c g : Nat} {xs : List Value} (h : w.ownsRow 0 e s (.slice (some ⟨g, 0, none⟩) n c) n xs) : ∃ cs, Blk w g e cs := by
  rcases h.2 with ⟨h3, _⟩ | ⟨g', cap, cur, h3, _, h4, _⟩
  · cases h3
  · injection h3 with h3 _ _
    injection h3 with h3
    injection h3 with h3
    subst h3
    exact ⟨cur, h4⟩
/-- a cell of a place is written -/
theorem ChAt.putA {g j : Nat} {u : Value} {at' : List L3} (h : ChAt w B x cells lists (some ⟨g, 0, none⟩) cA LE cE at_ en) (h1 : (l3C at_).set j u = l3C at') (h2 : at'.length = at_.length) : ChAt (w.setCell ⟨g, j, none⟩ u) B x cells lists (some ⟨g, 0, none⟩) cA LE cE at' en := by
  obtain ⟨cs, hb⟩ := own_blkB h.oA.own
  have hx : x ≠ g := fun e => by
    subst e
    exact own_type h.oA.own h.blk (by decide) rfl
  refine ⟨?_, ?_, h.oE.far hb (by decide) j u, h.inB⟩
  · rw [h2]; exact h.blk.far (p := ⟨g, j, none⟩) hx u
  · rw [h2, ← h1]; exact h.oA.put j u
theorem ChAt.putE {g j : Nat} {u : Value} {en' : List L3} (h : ChAt w B x cells lists LA cA (some ⟨g, 0, none⟩) cE at_ en) (h1 : (l3C en).set j u = l3C en') (h2 : en'.length = en.length) : ChAt (w.setCell ⟨g, j, none⟩ u) B x cells lists LA cA (some ⟨g, 0, none⟩) cE at_ en' := by
  obtain ⟨cs, hb⟩ := own_blkB h.oE.own
  have hx : x ≠ g := fun e => by
    subst e
    exact own_type h.oE.own h.blk (by decide) rfl
  refine ⟨?_, h.oA.far hb (by decide) j u, ?_, h.inB⟩
  · rw [h2]; exact h.blk.far (p := ⟨g, j, none⟩) hx u
  · rw [h2, ← h1]; exact h.oE.put j u
theorem ChAt.setA {g i : Nat} (h : ChAt w B x cells lists (some ⟨g, 0, none⟩) cA LE cE at_ en) (y : L3) : ChAt (((w.setCell ⟨g, i * 3, none⟩ (.int .i64 y.1)).setCell ⟨g, i * 3 + 1, none⟩ (.int .i64 y.2.1)).setCell ⟨g, i * 3 + 2, none⟩ (.int .i64 y.2.2)) B x cells lists (some ⟨g, 0, none⟩) cA LE cE (at_.set i y) en := by
  have h1 := h.putA (u := .int .i64 y.1) (l3C_set0 at_ i y.1) (by simp)
  have h2 := h1.putA (u := .int .i64 y.2.1) (l3C_set1 _ i y.2.1) (by simp)
  have h3 := h2.putA (u := .int .i64 y.2.2) (l3C_set2 _ i y.2.2) (by simp)
  have e := l3C_set at_ i y
  rw [l3C_set0, l3C_set1, l3C_set2] at e
  refine ⟨?_, ?_, h3.oE, h3.inB⟩
  · have := h3.blk
    simpa using this
  · have := h3.oA
    rw [e] at this
    simpa using this
theorem ChAt.setNext {g p : Nat} {v : Int} (h : ChAt w B x cells lists (some ⟨g, 0, none⟩) cA LE cE at_ en) : ChAt (w.setCell ⟨g, p * 3 + 2, none⟩ (.int .i64 v)) B x cells lists (some ⟨g, 0, none⟩) cA LE cE (setNext at_ (some p) v) en := h.putA (l3C_set2 at_ p v) (setNext_len _ _ _)
theorem ChAt.setPrev {g p : Nat} {v : Int} (h : ChAt w B x cells lists (some ⟨g, 0, none⟩) cA LE cE at_ en) : ChAt (w.setCell ⟨g, p * 3 + 1, none⟩ (.int .i64 v)) B x cells lists (some ⟨g, 0, none⟩) cA LE cE (setPrev at_ (some p) v) en := h.putA (l3C_set1 at_ p v) (setPrev_len _ _ _)
end
/-- the ends, one field after the other -/
def enSize (e : List L3) (n : Nat) (v : Int) : List L3 := e.modify n fun x => (x.1, x.2.1, v)
def enFirst (e : List L3) (n : Nat) (v : Int) : List L3 := e.modify n fun x => (v, x.2.1, x.2.2)
def enLast (e : List L3) (n : Nat) (v : Int) : List L3 := e.modify n fun x => (x.1, v, x.2.2)
theorem insEn_eq {e : List L3} {n c : Nat} {y : L3} (hy : e[n]? = some y) (p q : Option Nat) :
    (let e1 := enSize e n (y.2.2 + 1)
     let e2 := if p = none then enFirst e1 n c else e1
     if q = none then enLast e2 n c else e2) = insEn e n c p q := by
  apply List.ext_getElem?
  intro j
  unfold insEn enSize
  rw [modify_get]
  by_cases hj : n = j
  · subst hj
    rw [if_pos rfl, hy]
    rcases p with _ | p <;> rcases q with _ | q
    · simp [enFirst, enLast, hy]
    · simp [enFirst, hy]
    · simp [enLast, hy]
    · simp [hy]
  · rw [if_neg hj]
    rcases p with _ | p <;> rcases q with _ | q
    · simp [enFirst, enLast, hj]
    · simp [enFirst, hj]
    · simp [enLast, hj]
    · simp [hj]

set_option maxRecDepth 100000 in
set_option maxHeartbeats 1000000 in
theorem insert_any {w : World} {B : Nat → Prop} {x cells lists : Nat} {LA : Option Addr} {cA : Nat} {LE : Option Addr} {cE : Nat} {at_ en : List L3} (h : ChAt w B x cells lists LA cA LE cE at_ en) {n c : Nat} {p q : Option Nat} (hn : n < en.length) (hc : c < at_.length) (hm2 : en.length ≤ 1048577) (hsz : ∀ y, en[n]? = some y → 0 ≤ y.2.2 ∧ y.2.2 ≤ 1048576)
    (hp : ∀ y, p = some y → y < at_.length ∧ y ≠ c) (hq : ∀ y, q = some y → y < at_.length ∧ y ≠ c) :
    Calls Try.prog 100 #[.pointer (some ⟨x, 0, none⟩), .int .i64 n, .int .i64 c, .int .i64 (oi p), .int .i64 (oi q)] w fun e w' => e = .returned (.tuple #[]) ∧ ChAt w' B x cells lists LA cA LE cE (insAt at_ n c p q) (insEn en n c p q) ∧ Chg B w w' := by
  have hy : en[n]? = some en[n] := List.getElem?_eq_getElem hn
  generalize en[n] = y at hy
  have hz : at_[c]? = some at_[c] := List.getElem?_eq_getElem hc
  generalize at_[c] = z at hz
  have HYY := hide hy
  obtain ⟨g, rfl, hgB, hgx, hgl, k0, k1, k2, kf⟩ := h.lnk hz
  obtain ⟨g', rfl, hgB', hgx', hgl', e0, e1, e2, ef⟩ := h.end_ hy
  have hgg := h.apart rfl rfl
  have a1 : w.cell? ⟨x, 1, none⟩ = some (.slice (some ⟨g, 0, none⟩) at_.length cA) := h.blk.cell 1
  have a3 : w.cell? ⟨x, 3, none⟩ = some (.slice (some ⟨g', 0, none⟩) en.length cE) := h.blk.cell 3
  have n1 := Ne.symm hgx; have n2 := Ne.symm hgx'; have n3 := Ne.symm hgg
  have hIN := hide (And.intro h.inB (And.intro hgB hgB'))
  have HL := hide (fun (p : Nat) (hp : p < at_.length) => h.lnk (List.getElem?_eq_getElem hp))
  have HP := hide hp; have HQ := hide hq
  have hys := hsz y hy
  have H := hide h
  clear h hy hz hp hq hsz
  rcases p with _ | p <;> rcases q with _ | q
  · -- none none
    simp only [oi]
    go_enter Try.func100, Try.ntmps100
    go_wp2_with fail
    go_end0
    have h1 := (H.out.setA (i := c) ((n : Int) + 1, oi none, oi none)).putE (u := .int .i64 (y.2.2 + 1)) (l3C_set2 en n (y.2.2 + 1)) (by simp)
    have h2 := h1.putE (u := .int .i64 (c : Int)) (l3C_set0 _ n (c : Int)) (by simp)
    have h3 := h2.putE (u := .int .i64 (c : Int)) (l3C_set1 _ n (c : Int)) (by simp)
    have he := insEn_eq (c := c) HYY.out none none
    simp only [enSize, enFirst, enLast, if_true] at he
    rw [← he]
    exact ⟨rfl, h3, ((((((Chg.refl B w).setCell (p := ⟨g, c * 3, none⟩) (.inl hIN.out.2.1) _).setCell (p := ⟨g, c * 3 + 1, none⟩) (.inl hIN.out.2.1) _).setCell (p := ⟨g, c * 3 + 2, none⟩) (.inl hIN.out.2.1) _).setCell (p := ⟨g', n * 3 + 2, none⟩) (.inl hIN.out.2.2) _).setCell (p := ⟨g', n * 3, none⟩) (.inl hIN.out.2.2) _).setCell (p := ⟨g', n * 3 + 1, none⟩) (.inl hIN.out.2.2) _⟩
  · -- none some
    simp only [oi]
    obtain ⟨hql, hqc⟩ := HQ.out q rfl
    obtain ⟨gq, egq, -, -, -, q0, q1, q2, -⟩ := HL.out q hql
    obtain rfl : g = gq := by injection egq with egq; injection egq
    have hq0 : ¬ ((q : Int) < 0) := by omega
    have d3 : q * 3 + 1 ≠ c * 3 := by omega
    have d4 : q * 3 + 1 ≠ c * 3 + 1 := by omega
    have d5 : q * 3 + 1 ≠ c * 3 + 2 := by omega
    clear q0 q2 egq
    go_enter Try.func100, Try.ntmps100
    go_wp2_with fail
    go_end0
    have h1 := (H.out.setA (i := c) ((n : Int) + 1, oi none, oi (some q))).putE (u := .int .i64 (y.2.2 + 1)) (l3C_set2 en n (y.2.2 + 1)) (by simp)
    have h2 := h1.putE (u := .int .i64 (c : Int)) (l3C_set0 _ n (c : Int)) (by simp)
    have h3 := h2.setPrev (p := q) (v := (c : Int))
    have he := insEn_eq (c := c) HYY.out none (some q)
    simp only [enSize, enFirst, if_true, reduceCtorEq, if_false] at he
    rw [← he]
    exact ⟨rfl, h3, ((((((Chg.refl B w).setCell (p := ⟨g, c * 3, none⟩) (.inl hIN.out.2.1) _).setCell (p := ⟨g, c * 3 + 1, none⟩) (.inl hIN.out.2.1) _).setCell (p := ⟨g, c * 3 + 2, none⟩) (.inl hIN.out.2.1) _).setCell (p := ⟨g', n * 3 + 2, none⟩) (.inl hIN.out.2.2) _).setCell (p := ⟨g', n * 3, none⟩) (.inl hIN.out.2.2) _).setCell (p := ⟨g, q * 3 + 1, none⟩) (.inl hIN.out.2.1) _⟩
  · -- some none
    simp only [oi]
    obtain ⟨hpl, hpc⟩ := HP.out p rfl
    obtain ⟨gp, egp, -, -, -, p0, p1, p2, -⟩ := HL.out p hpl
    obtain rfl : g = gp := by injection egp with egp; injection egp
    have hp0 : ¬ ((p : Int) < 0) := by omega
    have d0 : p * 3 + 2 ≠ c * 3 := by omega
    have d1 : p * 3 + 2 ≠ c * 3 + 1 := by omega
    have d2 : p * 3 + 2 ≠ c * 3 + 2 := by omega
    clear p0 p1 egp
    go_enter Try.func100, Try.ntmps100
    go_wp2_with fail
    go_end0
    have h1 := (H.out.setA (i := c) ((n : Int) + 1, oi (some p), oi none)).putE (u := .int .i64 (y.2.2 + 1)) (l3C_set2 en n (y.2.2 + 1)) (by simp)
    have h2 := h1.setNext (p := p) (v := (c : Int))
    have h3 := h2.putE (u := .int .i64 (c : Int)) (l3C_set1 _ n (c : Int)) (by simp)
    have he := insEn_eq (c := c) HYY.out (some p) none
    simp only [enSize, enLast, if_true, reduceCtorEq, if_false] at he
    rw [← he]
    exact ⟨rfl, h3, ((((((Chg.refl B w).setCell (p := ⟨g, c * 3, none⟩) (.inl hIN.out.2.1) _).setCell (p := ⟨g, c * 3 + 1, none⟩) (.inl hIN.out.2.1) _).setCell (p := ⟨g, c * 3 + 2, none⟩) (.inl hIN.out.2.1) _).setCell (p := ⟨g', n * 3 + 2, none⟩) (.inl hIN.out.2.2) _).setCell (p := ⟨g, p * 3 + 2, none⟩) (.inl hIN.out.2.1) _).setCell (p := ⟨g', n * 3 + 1, none⟩) (.inl hIN.out.2.2) _⟩
  · -- some some
    simp only [oi]
    obtain ⟨hpl, hpc⟩ := HP.out p rfl
    obtain ⟨gp, egp, -, -, -, p0, p1, p2, -⟩ := HL.out p hpl
    obtain rfl : g = gp := by injection egp with egp; injection egp
    have hp0 : ¬ ((p : Int) < 0) := by omega
    have d0 : p * 3 + 2 ≠ c * 3 := by omega
    have d1 : p * 3 + 2 ≠ c * 3 + 1 := by omega
    have d2 : p * 3 + 2 ≠ c * 3 + 2 := by omega
    clear p0 p1 egp
    obtain ⟨hql, hqc⟩ := HQ.out q rfl
    obtain ⟨gq, egq, -, -, -, q0, q1, q2, -⟩ := HL.out q hql
    obtain rfl : g = gq := by injection egq with egq; injection egq
    have hq0 : ¬ ((q : Int) < 0) := by omega
    have d3 : q * 3 + 1 ≠ c * 3 := by omega
    have d4 : q * 3 + 1 ≠ c * 3 + 1 := by omega
    have d5 : q * 3 + 1 ≠ c * 3 + 2 := by omega
    clear q0 q2 egq
    have d6 : q * 3 + 1 ≠ p * 3 + 2 := by omega
    go_enter Try.func100, Try.ntmps100
    go_wp2_with fail
    go_end0
    have h1 := (H.out.setA (i := c) ((n : Int) + 1, oi (some p), oi (some q))).putE (u := .int .i64 (y.2.2 + 1)) (l3C_set2 en n (y.2.2 + 1)) (by simp)
    have h2 := h1.setNext (p := p) (v := (c : Int))
    have h3 := h2.setPrev (p := q) (v := (c : Int))
    have he := insEn_eq (c := c) HYY.out (some p) (some q)
    simp only [enSize, reduceCtorEq, if_false] at he
    rw [← he]
    exact ⟨rfl, h3, ((((((Chg.refl B w).setCell (p := ⟨g, c * 3, none⟩) (.inl hIN.out.2.1) _).setCell (p := ⟨g, c * 3 + 1, none⟩) (.inl hIN.out.2.1) _).setCell (p := ⟨g, c * 3 + 2, none⟩) (.inl hIN.out.2.1) _).setCell (p := ⟨g', n * 3 + 2, none⟩) (.inl hIN.out.2.2) _).setCell (p := ⟨g, p * 3 + 2, none⟩) (.inl hIN.out.2.1) _).setCell (p := ⟨g, q * 3 + 1, none⟩) (.inl hIN.out.2.1) _⟩
end Go.Proofs.Ytahdiiaadjdmcaa

namespace Go.Proofs.Ytahdiiaadjdmcaa
open Go.RowKit

/-- lists over cells, in the blocks B -/
structure HCh (w : World) (B : Nat → Prop) (x cells lists : Nat) (cont : Nat → List Nat) : Prop where
  mem : ∃ LA cA LE cE at_ en, ChAt w B x cells lists LA cA LE cE at_ en ∧ ChOk cells lists at_ en cont
  lt : ∀ b, B b → b < w.heap.size
  cm : cells ≤ 1048576
  lm : lists ≤ 1048577
theorem HCh.chg {w w' : World} {B C : Nat → Prop} {x cells lists : Nat} {cont : Nat → List Nat} (h : HCh w B x cells lists cont) (hw : Chg C w w') (hC : ∀ g, B g → ¬ C g) : HCh w' B x cells lists cont := by
  obtain ⟨LA, cA, LE, cE, at_, en, h1, h2⟩ := h.mem
  exact ⟨⟨LA, cA, LE, cE, at_, en, h1.chg hw hC, h2⟩, fun b hb => Nat.lt_of_lt_of_le (h.lt b hb) hw.size, h.cm, h.lm⟩
theorem HCh.ext {w w' : World} {B : Nat → Prop} {x cells lists : Nat} {cont : Nat → List Nat} (h : HCh w B x cells lists cont) (hw : Ext w w') : HCh w' B x cells lists cont := h.chg (C := fun _ => False) (Chg.of hw) fun _ _ x => x
/-- what a call leaves of it -/
def ChR (w : World) (B : Nat → Prop) (x cells lists : Nat) (cont : Nat → List Nat) (w' : World) : Prop := ∃ B', HCh w' B' x cells lists cont ∧ (∀ b, B' b → B b ∨ w.heap.size ≤ b) ∧ Chg B w w'
theorem ChR.of {w w' : World} {B : Nat → Prop} {x cells lists : Nat} {LA : Option Addr} {cA : Nat} {LE : Option Addr} {cE : Nat} {at_ en : List L3} {cont : Nat → List Nat} (h : ChG w w' B x cells lists LA cA LE cE at_ en cont) (hc : cells ≤ 1048576) (hl : lists ≤ 1048577) : ChR w B x cells lists cont w' := by
  obtain ⟨B', h1, h2, h3⟩ := h.mem
  exact ⟨B', ⟨⟨LA, cA, LE, cE, at_, en, h1, h.ok⟩, h3, hc, hl⟩, h2, h.chg⟩
/-- one growth behind the other -/
theorem ChG.step {w0 w w' : World} {B B' : Nat → Prop} {x cells lists : Nat} {LA : Option Addr} {cA : Nat} {LE : Option Addr} {cE : Nat} {at_ en : List L3} {cont : Nat → List Nat} (h1 : ∀ b, B' b → B b ∨ w0.heap.size ≤ b) (h2 : Chg B w0 w) (h : ChG w w' B' x cells lists LA cA LE cE at_ en cont) : ChG w0 w' B x cells lists LA cA LE cE at_ en cont := by
  obtain ⟨B2, h3, h4, h5⟩ := h.mem
  refine ⟨⟨B2, h3, fun b hb => ?_, h5⟩, h.ok, h2.trans h.chg fun g hg hlt => (h1 g hg).resolve_right (by omega)⟩
  rcases h4 b hb with h6 | h6
  · exact h1 b h6
  · have := h2.size; right; omega
theorem ChG.ins {w0 w w' : World} {B B' : Nat → Prop} {x cells lists : Nat} {LA : Option Addr} {cA : Nat} {LE : Option Addr} {cE : Nat} {at_ en at' en' : List L3} {cont cont' : Nat → List Nat} (h : ChG w0 w B x cells lists LA cA LE cE at_ en cont) (h1 : ∀ b, B' b → B b ∨ w0.heap.size ≤ b) (h2 : ∀ b, B' b → b < w.heap.size) (h3 : ChAt w' B' x cells lists LA cA LE cE at' en') (h4 : Chg B' w w') (h5 : ChOk cells lists at' en' cont') : ChG w0 w' B x cells lists LA cA LE cE at' en' cont' :=
  ⟨⟨B', h3, h1, fun b hb => Nat.lt_of_lt_of_le (h2 b hb) h4.size⟩, h5, h.chg.trans h4 fun g hg hlt => (h1 g hg).resolve_right (by omega)⟩

set_option maxRecDepth 100000 in
theorem append_any {w : World} {B : Nat → Prop} {x cells lists : Nat} {cont : Nat → List Nat} (h : HCh w B x cells lists cont) {n c : Nat} (hn : n < lists) (hc : c < cells) (hl : ∀ m, c ∉ cont m) :
    Calls Try.prog 87 #[.pointer (some ⟨x, 0, none⟩), .int .i64 n, .int .i64 c] w fun e w' => e = .returned (.int .i64 0) ∧ ChR w B x cells lists (upd cont n (cont n ++ [c])) w' := by
  obtain ⟨LA, cA, LE, cE, at_, en, h1, h2⟩ := h.mem
  have HL := hide (list_any h1 h.lt h2 hn h.lm)
  have hcm := h.cm; have hlm := h.lm
  clear h h1 h2
  go_enter Try.func87, Try.ntmps87
  go_upto_region 2 with ((with_reducible refine HL.out.mono ?_); rintro e w1 ⟨g, cE', en', rfl, hG1, hn1⟩; have HG1 := hide hG1; clear hG1)
  clear HL
  obtain ⟨B1, m1, m2, m3⟩ := HG1.out.mem
  have HO := hide (loose_any m1 m3 HG1.out.ok hc hl hcm)
  have HB := hide (And.intro m1 (And.intro m2 m3))
  clear m1 m2 m3
  go_upto_region 5 with ((with_reducible refine HO.out.mono ?_); rintro e w2 ⟨ga, cA', at', rfl, hG2, hc2⟩; have HG2 := hide hG2; clear hG2)
  clear HO
  obtain ⟨B2, k1, k2, k3⟩ := HG2.out.mem
  have hen : en'[n]? = some (oi (cont n).head?, oi (cont n).getLast?, ((cont n).length : Int)) := by
    rw [List.getElem?_eq_getElem hn1]
    exact congrArg some (HG2.out.ok.ends n _ (List.getElem?_eq_getElem hn1))
  obtain ⟨g2, eg, -, -, -, e0, e1, e2, -⟩ := k1.end_ hen
  obtain rfl : g = g2 := by injection eg with eg; injection eg
  have hcl : (cont n).length ≤ 1048576 := by
    have hb : ∀ y ∈ cont n, y < at'.length := fun y hy => (HG2.out.ok.lt hy).1
    have := nodup_lt _ _ (HG2.out.ok.nd n) hb
    have := HG2.out.ok.cl
    omega
  have hel := HG2.out.ok.el
  have HI := hide (insert_any (p := (cont n).getLast?) (q := none) k1 hn1 hc2 (by omega) (fun y hy => by rw [hen] at hy; injection hy with hy; subst hy; simp only; omega) (fun y hy => ⟨(HG2.out.ok.lt (List.mem_of_getLast? hy)).1, fun e => hl n (e ▸ List.mem_of_getLast? hy)⟩) (fun y hy => by cases hy))
  have HOK := hide (HG2.out.ok.ins (A := cont n) (B := []) hn1 hc2 hl (by simp))
  have HK := hide (And.intro k1 (And.intro k2 k3))
  clear k1 k2 k3 e0 e2 hen eg hel hcl
  dsimp only at e1
  have ho : oi (none : Option Nat) = -1 := rfl
  rw [ho] at HI
  go_wp2_with ((with_reducible refine HI.out.mono ?_); rintro e w3 ⟨rfl, h3, h4⟩; have H3 := hide h3; have H4 := hide h4; clear h3 h4 e1)
  go_ret
  exact ⟨rfl, ChR.of (((ChG.step HB.out.2.1 HG1.out.chg HG2.out).ins (fun b hb => by
    rcases HK.out.2.1 b hb with h9 | h9
    · exact HB.out.2.1 b h9
    · have := HG1.out.chg.size; right; omega) HK.out.2.2 H3.out H4.out HOK.out)) hcm hlm⟩

set_option maxRecDepth 100000 in
theorem before_any {w : World} {B : Nat → Prop} {x cells lists : Nat} {cont : Nat → List Nat} (h : HCh w B x cells lists cont) {n c m : Nat} {A D : List Nat} (hAD : cont n = A ++ m :: D) (hc : c < cells) (hl : ∀ m, c ∉ cont m) :
    Calls Try.prog 86 #[.pointer (some ⟨x, 0, none⟩), .int .i64 c, .int .i64 m] w fun e w' => e = .returned (.int .i64 0) ∧ ChR w B x cells lists (upd cont n (A ++ c :: m :: D)) w' := by
  obtain ⟨LA, cA, LE, cE, at_, en, h1, h2⟩ := h.mem
  have hmn : m ∈ cont n := by rw [hAD]; simp
  have hmc : m < cells := Nat.lt_of_lt_of_le (h2.lt hmn).1 h2.cl
  have HL := hide (linked_any h1 (h2.lnk n m hmn) (by simp only; omega) hmc)
  have HO := hide (loose_any h1 h.lt h2 hc hl h.cm)
  have hcm := h.cm; have hlm := h.lm
  clear h h1 h2
  go_enter Try.func86, Try.ntmps86
  go_upto_region 3 with (first
    | ((with_reducible refine HL.out.mono ?_); rintro e w1 ⟨rfl, g0, hg0, rfl⟩; subst hg0)
    | ((with_reducible refine HO.out.mono ?_); rintro e w2 ⟨ga, cA', at', rfl, hG2, hc2⟩; have HG2 := hide hG2; clear hG2))
  clear HL HO
  obtain ⟨B2, k1, k2, k3⟩ := HG2.out.mem
  have hp := HG2.out.ok.lnk n m hmn
  obtain ⟨g2, eg, -, -, -, e0, e1, -, -⟩ := k1.lnk hp
  obtain rfl : ga = g2 := by injection eg with eg; injection eg
  have hml := (HG2.out.ok.lt hmn).1
  have hcl := HG2.out.ok.cl
  have hnl := (HG2.out.ok.lt hmn).2
  have hel := HG2.out.ok.el
  have hcmn : c ≠ m := fun e => hl n (e ▸ hmn)
  have hpl : ∀ y, A.getLast? = some y → y ∈ cont n := fun y hy => by rw [hAD]; exact List.mem_append_left _ (List.mem_of_getLast? hy)
  have hnd : (A ++ m :: D).Nodup := by rw [← hAD]; exact HG2.out.ok.nd n
  have hpm : prevOf (cont n) m = A.getLast? := by rw [hAD]; exact prevOf_mid hnd
  have hcl2 : (cont n).length ≤ 1048576 := by
    have hb : ∀ y ∈ cont n, y < at'.length := fun y hy => (HG2.out.ok.lt hy).1
    have := nodup_lt _ _ (HG2.out.ok.nd n) hb
    omega
  have HI := hide (fun wq (hx : Ext w2 wq) => insert_any (p := A.getLast?) (q := some m) (k1.ext hx) hnl hc2 (by omega) (fun y hy => by have := HG2.out.ok.ends n y hy; subst this; simp only; omega) (fun y hy => ⟨(HG2.out.ok.lt (hpl y hy)).1, fun e => hl n (e ▸ hpl y hy)⟩) (fun y hy => by injection hy with hy; subst hy; exact ⟨hml, fun e => hcmn e.symm⟩))
  have HOK := hide (HG2.out.ok.ins (A := A) (B := m :: D) hnl hc2 hl hAD)
  have HK := hide (And.intro k1 (And.intro k2 k3))
  have a1 : w2.cell? ⟨x, 1, none⟩ = some (.slice (some ⟨ga, 0, none⟩) at'.length cA') := k1.blk.cell 1
  rw [hpm] at e1
  dsimp only at e0 e1
  have ho : oi (some m) = (m : Int) := rfl
  rw [ho] at HI
  have hsum : IntKind.i64.wrap ((n : Int) + 1 - 1) = (n : Int) := by rw [show (n : Int) + 1 - 1 = n by omega]; exact IntWalk.i64_in _ (by omega)
  clear k1 k2 k3 hp eg hpl hnd hpm hmn hAD hcl2 hl
  go_upto_region 10 with fail
  have e0 := cell_ext e0
  have e1 := cell_ext e1
  clear a1
  refine wp_region_ext 12 (by kernel_rfl) (by kernel_rfl) (by kernel_rfl) ?_
  iterate 12
    refine wpE_k (by kernel_rfl) (by kernel_rfl) ?_
    apply Exists.intro
    refine ⟨fun w1 hw1 => ?_, fun K hK => ?_⟩
    · go_simp; first | done | rfl
    go_simp; refine hK _ _ ?_; clear hK K
  refine wpE_nil ⟨rfl, by kernel_rfl, fun wq hwq => ?_⟩
  simp only [EndQ, List.drop]
  clear e0 e1 hsum
  have HIq := hide (HI.out wq hwq)
  have HX := hide hwq
  clear HI hwq
  go_wp2_with ((with_reducible refine HIq.out.mono ?_); rintro e w3 ⟨rfl, h3, h4⟩; have H3 := hide h3; have H4 := hide h4; clear h3 h4)
  go_ret
  exact ⟨rfl, ChR.of (HG2.out.ins HK.out.2.1 HK.out.2.2 H3.out ((Chg.of HX.out).trans' H4.out) HOK.out) hcm hlm⟩
end Go.Proofs.Ytahdiiaadjdmcaa

namespace Go.Proofs.Ytahdiiaadjdmcaa
open Go.RowKit

set_option maxRecDepth 100000 in
/-- what New gives back at right numbers -/
theorem chain_new (cells lists : Nat) (w : World) (h1 : 1 ≤ cells) (h2 : cells ≤ 1048576) (h3 : 1 ≤ lists) (h4 : lists ≤ 1048576) :
    Calls Try.prog 36 #[.int .i64 cells, .int .i64 lists] w fun e w' => ∃ x, e = .returned (.tuple #[.pointer (some ⟨x, 0, none⟩), .int .i64 0]) ∧ HCh w' (fun b => b = x) x cells lists (fun _ => []) ∧ w.heap.size ≤ x ∧ Ext w w' := by
  have hm1 : ¬ (cells : Int) < 1 := by omega
  have hm2 : ¬ (1048576 : Int) < (cells : Int) := by omega
  have hm3 : ¬ (lists : Int) < 1 := by omega
  have hm4 : ¬ (1048576 : Int) < (lists : Int) := by omega
  go_enter Try.func36, Try.ntmps36
  go_wp2_with fail
  go_ret2
  have hb := Blk.new w 128 #[.int .i64 cells, .slice none 0 0, .int .i64 lists, .slice none 0 0]
  exact ⟨_, rfl, ⟨⟨none, 0, none, 0, [], [], ⟨hb, OwnH.nil _ _ _ _, OwnH.nil _ _ _ _, rfl⟩, ChOk.empty _ _⟩, fun b hb2 => by subst hb2; exact hb.lt, h2, by omega⟩, Nat.le_refl _, Ext.alloc _ _⟩

set_option maxRecDepth 100000 in
theorem next_any {w : World} {B : Nat → Prop} {x cells lists : Nat} {cont : Nat → List Nat} (h : HCh w B x cells lists cont) {n c : Nat} (hc : c ∈ cont n) :
    Calls Try.prog 88 #[.pointer (some ⟨x, 0, none⟩), .int .i64 c] w fun e w' => e = .returned (.tuple #[.int .i64 (oi (nextOf (cont n) c)), .int .i64 0]) ∧ w' = w := by
  obtain ⟨LA, cA, LE, cE, at_, en, h1, h2⟩ := h.mem
  have HL := hide (linked_any h1 (h2.lnk n c hc) (by simp only; omega) (Nat.lt_of_lt_of_le (h2.lt hc).1 h2.cl))
  obtain ⟨g, rfl, -, -, -, -, -, k2, -⟩ := h1.lnk (h2.lnk n c hc)
  replace k2 : w.cell? ⟨g, c * 3 + 2, none⟩ = some (.int .i64 (oi (nextOf (cont n) c))) := k2
  clear h h1 h2
  go_enter Try.func88, Try.ntmps88
  go_wp2_with ((with_reducible refine HL.out.mono ?_); rintro e w1 ⟨rfl, g0, hg0, rfl⟩; obtain rfl : g = g0 := by injection hg0 with hg0; injection hg0)
  go_ret2
  exact ⟨rfl, rfl⟩

set_option maxRecDepth 100000 in
theorem clen_any {w : World} {B : Nat → Prop} {x cells lists : Nat} {cont : Nat → List Nat} (h : HCh w B x cells lists cont) {n : Nat} (hn : n < lists) :
    Calls Try.prog 101 #[.pointer (some ⟨x, 0, none⟩), .int .i64 n] w fun e w' => e = .returned (.tuple #[.int .i64 (cont n).length, .int .i64 0]) ∧ ChR w B x cells lists cont w' := by
  obtain ⟨LA, cA, LE, cE, at_, en, h1, h2⟩ := h.mem
  have HL := hide (list_any h1 h.lt h2 hn h.lm)
  have hcm := h.cm; have hlm := h.lm
  clear h h1 h2
  go_enter Try.func101, Try.ntmps101
  go_wp2_with ((with_reducible refine HL.out.mono ?_); rintro e w1 ⟨g, cE', en', rfl, hG1, hn1⟩; have HG1 := hide hG1; obtain ⟨B1, m1, m2, m3⟩ := hG1.mem; obtain ⟨g2, eg, -, -, -, -, -, e2, -⟩ := m1.end_ (List.getElem?_eq_getElem hn1); obtain rfl : g = g2 := (by injection eg with eg; injection eg); rw [hG1.ok.ends n _ (List.getElem?_eq_getElem hn1)] at e2; clear hG1 m1 m2 m3 eg)
  go_ret2
  exact ⟨rfl, ChR.of HG1.out hcm hlm⟩
/-- no such list -/
theorem list_bad (w : World) (x : Nat) : Calls Try.prog 44 #[.pointer (some ⟨x, 0, none⟩), .int .i64 (-1)] w fun e w' => e = .returned (.tuple #[.pointer none, .int .i64 41]) ∧ w' = w := by
  go_enter Try.func44, Try.ntmps44
  go_wp2_with fail
  go_ret2
  exact ⟨rfl, rfl⟩
theorem clen_bad (w : World) (x : Nat) :
    Calls Try.prog 101 #[.pointer (some ⟨x, 0, none⟩), .int .i64 (-1)] w fun e w' => e = .returned (.tuple #[.int .i64 0, .int .i64 41]) ∧ w' = w := by
  go_enter Try.func101, Try.ntmps101
  go_wp2_with ((with_reducible refine (list_bad w x).mono ?_); rintro e w1 ⟨rfl, rfl⟩)
  go_ret2
  exact ⟨rfl, rfl⟩

end Go.Proofs.Ytahdiiaadjdmcaa
