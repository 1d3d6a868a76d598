/-
  store: Begin, Commit.
  store: what undoes a Put, what undoes a Drop; the mark and the undo row away.
-/
import Derived.Test.YtahdiiaadjdmcaaGreatStgA
namespace Go.Proofs.YtahdiiaadjdmcaaGreat
open Go.RowKit

def beginS (S : SAbs) : SAbs × Int := match S.old with
  | none => ({ S with old := some S.rows }, 0)
  | some _ => (S, 64)
def commitS (S : SAbs) : SAbs × Int := match S.old with
  | none => (S, 65)
  | some _ => ({ S with old := none }, 0)
theorem StRow.with_ {v v' : StV} (hr : StRow v) (h1 : v'.width = v.width) (h2 : v'.most = v.most) (h3 : v'.gs = v.gs) (h4 : v'.P = v.P) (h5 : v'.sl = v.sl) (h6 : v'.lv = v.lv) (h7 : v'.refs = v.refs) (h8 : v'.E = v.E) (h9 : v'.gx = v.gx) : StRow v' := by
  cases v; cases v'
  dsimp only at h1 h2 h3 h4 h5 h6 h7 h8 h9
  subst h1; subst h2; subst h3; subst h4; subst h5; subst h6; subst h7; subst h8; subst h9
  exact ⟨hr.width, hr.most, hr.gsl, hr.gs, hr.rows, hr.slots, hr.vals, hr.alive, hr.lv, hr.refs, hr.ents, hr.gx⟩
/-- the mark is written -/
theorem StM.mark {w : World} {lab : Lab} {v : StV} (h : StM w lab v) (b : Bool) : StR w lab (w.setCell ⟨v.x, 11, none⟩ (.bool b)) { v with marked := b } := by
  obtain ⟨hx, hxB, hgr, hun⟩ := h.part 0
  have hC : Chg (lab.own 0) w (w.setCell ⟨v.x, 11, none⟩ (.bool b)) := (Chg.refl _ w).setCell (p := ⟨v.x, 11, none⟩) (.inl hxB) _
  refine h.chg1 0 (B' := lab.own 0) (fun b hb => .inl hb) (fun b hb => Nat.lt_of_lt_of_le (h.lt b 0 hb) hC.size) hC (fun i hi => ?_) ?_
  · match i, hi with
    | 0, hi => exact absurd rfl hi
    | 1, _ => exact id
    | 2, _ => exact id
    | 3, _ => exact id
    | 4, _ => exact id
    | 5, _ => exact id
    | 6, _ => exact id
    | 7, _ => exact id
    | 8, _ => exact id
    | 9, _ => exact id
    | m + 10, _ => exact id
  · exact ⟨hx.set_ 11 _, hxB, hgr.far hx (by decide) 11 _, hun.far hx (by decide) 11 _⟩
end Go.Proofs.YtahdiiaadjdmcaaGreat

namespace Go.Proofs.YtahdiiaadjdmcaaGreat
open Go.RowKit

end Go.Proofs.YtahdiiaadjdmcaaGreat
