/-
  A row more in one of the tables: the statement that draws its order.
-/
import Derived.Test.YtpfjkjmimmklcaaFrzC
import Derived.Deep.RegionHeld3
import Derived.Deep.AppendLies
namespace Go.Proofs.Ytpfjkjmimmklcaa
open Go.RowKit

structure FA (W w : World) (gD n c k : Nat) (ps : List Pt) (p : Pt) (A' : Option Addr) (c' g10 : Nat) (R : Option Addr) (m1 cR : Nat) (r : List V) : Prop where
  cellD : w.cell? ⟨gD, k * 2 + 1, none⟩ = some (.slice p.A p.t.rows.length p.c)
  frD : w.frozen? ⟨gD, k * 2 + 1, none⟩ = false
  cellR : w.cell? ⟨g10, 0, none⟩ = some (.slice R m1 cR)
  fin : FInv W (w.setCell ⟨gD, k * 2 + 1, none⟩ (.slice A' (p.t.rows.length + 1) c')) (some ⟨gD, 0, none⟩) n c (ps.set k ⟨⟨p.t.rel, p.t.rows ++ [r]⟩, A', c', p.cells ++ [.slice R m1 cR]⟩)

theorem step_frz {W w11 w : World} {gD n c k g10 : Nat} {ps : List Pt} {p : Pt} {R : Option Addr} {m1 cR : Nat} {r : List V} {k0 : TypeInfo} {ops : Array Oper} {o : Oper} {a : Act} {K : Act → World → Prop} {Q : Exit → Act → World → Prop} {E : Prop}
    (hi : Try.prog.info? 35 = some k0) (hz : k0.zero = some (.slice none 0 0)) (hsz : k0.size = 1) (hby : k0.bytes = 24)
    (hI : FInv W w11 (some ⟨gD, 0, none⟩) n c ps) (hp : ps[k]? = some p) (hR : w11.ownsRow W.heap.size 58 3 (.slice R m1 cR) m1 (cellsR r)) (hB : Blk w11 g10 35 #[.slice R m1 cR])
    (hne : ∀ b, p.A = some b → b.block ≠ g10) (hl : p.t.rows.length ≤ 6)
    (hgd : o.guard = none) (s x : Operand) (ho : o.op = .call { callee := .builtin .append, args := #[s, x], argTypes := #[27, 27] }) (hs : a.eval s = .slice p.A p.t.rows.length p.c)
    (hw : Ext w11 w) (g : Nat) (hx : a.eval x = .slice (some ⟨g, 0, none⟩) 1 1) (hg : Blk w g 35 #[.slice R m1 cR])
    (h : ∀ A' c' w', FA W w' gD n c k ps p A' c' g10 R m1 cR r → K (a.put o.dst (.slice A' (p.t.rows.length + 1) c')) w') :
    if Region.wanted o (yielded ops a.tmps) = true then Oper.wp Try.prog o a w K Q else E := by
  have hok := (hI.rows p (List.mem_of_getElem? hp)).ext hw
  have hIw := hI.go hw
  refine step_append_lies w hgd s x _ ho W.heap.size 35 k0 _ 1 24 Try.underlying27 hi hz hsz hby rfl (by omega) _ p.t.rows.length p.cells hs hok.own ⟨g, 0, none⟩ 1 1 [.slice R m1 cR] hx rfl (World.news_of_block hg) (by simp [Value.oneCell']) (by omega) (by unfold maxLen; omega) (by omega) hIw.ext.size _ rfl ?_
  intro g' cap w' hown hgrow hat hlt
  have hW' : Ext W w' := Below.grown hIw.ext hgrow hIw.ext.size (fun k hk => (hok.own.lt k hk).1)
  have hdat := own_other hIw.own hok.own (by decide) hgrow
  have hkl := (List.getElem?_eq_some_iff.1 hp).1
  have hn := hI.len
  refine h _ _ _ ⟨(hdat.cellAt _ (by omega)).trans (flat_pt_get hp).2, hdat.frozenAt _, ?_, hIw.add hp hgrow hW' ?_ hown (own_ext hR hw)⟩
  · refine ((hB.ext hw).grown hgrow fun e => ?_).cell 0
    cases hA : p.A with
    | none => rw [hA] at e; simp [Value.ownBlock] at e
    | some b =>
      rw [hA] at e
      simp only [Value.ownBlock, Option.some.injEq] at e
      exact hne b hA e.symm
  · simp only [Value.ownBlock]
    rcases hat with hat | hat
    · left; rw [← hat]; rfl
    · right; rw [hat]
end Go.Proofs.Ytpfjkjmimmklcaa
