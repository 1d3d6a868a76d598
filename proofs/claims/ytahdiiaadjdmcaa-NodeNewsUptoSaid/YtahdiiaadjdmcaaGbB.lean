/-
  store: Begin, Commit.
  store: what undoes a Put, what undoes a Drop; the mark and the undo row away.
-/
import Derived.Test.YtahdiiaadjdmcaaStgA
namespace Go.Proofs.Ytahdiiaadjdmcaa
open Go.RowKit

def beginS (S : SAbs) : SAbs × Int := match S.old with
  | none => ({ S with old := some S.rows }, 0)
  | some _ => (S, 64)
def commitS (S : SAbs) : SAbs × Int := match S.old with
  | none => (S, 65)
  | some _ => ({ S with old := none }, 0)
theorem StRow.with_ {v v' : StV} (hr : StRow v) (h1 : v'.width = v.width) (h2 : v'.most = v.most) (h3 : v'.gs = v.gs) (h4 : v'.P = v.P) (h5 : v'.sl = v.sl) (h6 : v'.lv = v.lv) (h7 : v'.refs = v.refs) (h8 : v'.E = v.E) (h9 : v'.gx = v.gx) : StRow v' := by
  cases v; cases v'
  dsimp only at h1 h2 h3 h4 h5 h6 h7 h8 h9
  subst h1; subst h2; subst h3; subst h4; subst h5; subst h6; subst h7; subst h8; subst h9
  exact ⟨hr.width, hr.most, hr.gsl, hr.gs, hr.rows, hr.slots, hr.vals, hr.alive, hr.lv, hr.refs, hr.ents, hr.gx⟩
/-- the mark is written -/
theorem StM.mark {w : World} {lab : Lab} {v : StV} (h : StM w lab v) (b : Bool) : StR w lab (w.setCell ⟨v.x, 11, none⟩ (.bool b)) { v with marked := b } := by
  obtain ⟨hx, hxB, hgr, hun⟩ := h.part 0
  have hC : Chg (lab.own 0) w (w.setCell ⟨v.x, 11, none⟩ (.bool b)) := (Chg.refl _ w).setCell (p := ⟨v.x, 11, none⟩) (.inl hxB) _
  refine h.chg1 0 (B' := lab.own 0) (fun b hb => .inl hb) (fun b hb => Nat.lt_of_lt_of_le (h.lt b 0 hb) hC.size) hC (fun i hi => ?_) ?_
  · match i, hi with
    | 0, hi => exact absurd rfl hi
    | 1, _ => exact id
    | 2, _ => exact id
    | 3, _ => exact id
    | 4, _ => exact id
    | 5, _ => exact id
    | 6, _ => exact id
    | 7, _ => exact id
    | 8, _ => exact id
    | 9, _ => exact id
    | m + 10, _ => exact id
  · exact ⟨hx.set_ 11 _, hxB, hgr.far hx (by decide) 11 _, hun.far hx (by decide) 11 _⟩
/-- the mark and the undo row are taken away -/
theorem StM.unmark {w : World} {lab : Lab} {v : StV} (h : StM w lab v) : StR w lab ((w.setCell ⟨v.x, 11, none⟩ (.bool false)).setCell ⟨v.x, 12, none⟩ (.slice none 0 0)) { v with marked := false, uA := none, uC := 0, un := [], U := [] } := by
  obtain ⟨hx, hxB, hgr, hun⟩ := h.part 0
  have hC : Chg (lab.own 0) w ((w.setCell ⟨v.x, 11, none⟩ (.bool false)).setCell ⟨v.x, 12, none⟩ (.slice none 0 0)) := ((Chg.refl _ w).setCell (p := ⟨v.x, 11, none⟩) (.inl hxB) _).setCell (p := ⟨v.x, 12, none⟩) (.inl hxB) _
  refine h.chg1 0 (B' := lab.own 0) (fun b hb => .inl hb) (fun b hb => Nat.lt_of_lt_of_le (h.lt b 0 hb) hC.size) hC (fun i hi => ?_) ?_
  · match i, hi with
    | 0, hi => exact absurd rfl hi
    | 1, _ => exact id
    | 2, _ => exact id
    | 3, _ => exact id
    | 4, _ => exact id
    | 5, _ => exact id
    | 6, _ => exact id
    | 7, _ => exact id
    | 8, _ => exact fun h => ⟨h.1, rfl, fun i u z hu => by simp at hu⟩
    | 9, _ => exact id
    | m + 10, _ => exact id
  · exact ⟨(hx.set_ 11 _).set_ 12 _, hxB, (hgr.far hx (by decide) 11 _).far (hx.set_ 11 _) (by decide) 12 _, OwnH.nil _ _ _ _⟩
end Go.Proofs.Ytahdiiaadjdmcaa

namespace Go.Proofs.Ytahdiiaadjdmcaa
open Go.RowKit

theorem StM.und {w : World} {lab : Lab} {v : StV} (h : StM w lab v) {i : Nat} {u : Value} {z : Und} (hu : v.un[i]? = some u) (hz : v.U[i]? = some z) : UndAt w (lab.own 8) v.x u z := (h.part 8).2.2 i u z hu hz
theorem row_in {v : StV} {D : Nat → List (List V × Nat)} {N : Nat} (hat : StAt v D N) {s : Nat} {r : List V} (hs : (s, r) ∈ v.P) : r.length ≤ 30 ∧ fitsR v.width r = true ∧ smallR r ∧ wfR r := by
  obtain ⟨h1, h2, h3⟩ := hat.row.rows _ hs
  have h4 := h1
  unfold fitsR at h4
  rw [Bool.and_eq_true, decide_eq_true_eq] at h4
  exact ⟨by have h5 := hat.row.width; have h6 : r.length = v.width := h4.1; omega, h1, h2, h3⟩
theorem slot_of {v : StV} (hr : StRow v) {s s' : Nat} {r : List V} (h1 : (s, r) ∈ v.P) (h2 : (s', r) ∈ v.P) : s' = s := by
  obtain ⟨i, hi⟩ := List.mem_iff_getElem?.1 h1
  obtain ⟨j, hj⟩ := List.mem_iff_getElem?.1 h2
  have h4 : (v.P.map (·.2))[i]? = (v.P.map (·.2))[j]? := by rw [List.getElem?_map, List.getElem?_map, hi, hj]; rfl
  have h5 : i < (v.P.map (·.2)).length := by rw [List.length_map]; exact (List.getElem?_eq_some_iff.1 hi).1
  have h6 := (List.getElem?_inj h5 hr.vals).1 h4
  subst h6
  have h7 := Option.some.inj (hi.symm.trans hj)
  injection h7 with h7
  exact h7.symm
set_option maxRecDepth 100000 in
set_option maxHeartbeats 1000000 in
theorem undo_put {w : World} {lab : Lab} {v : StV} {D : Nat → List (List V × Nat)} {N M i : Nat} (h : StM w lab v) (hat : StAt v D N) (hM1 : ∀ i, genA v.sl i < M) (hM2 : ∀ i, genA v.sL i < M) (hM : M ≤ 1073741824) (hK : v.K ≤ 4611686018427370000) {sb kb n c : Nat} {A : Option Addr} {r : List V}
    (hu : v.un[i]? = some (.func (.func 78) #[] #[.pointer (some ⟨sb, 0, none⟩), .pointer (some ⟨kb, 0, none⟩)])) (hz : v.U[i]? = some (.put r A n c)) {P' : List SRow} {s : Nat} (hP : v.P = P' ++ [(s, r)]) :
    Calls Try.prog 78 #[.pointer (some ⟨sb, 0, none⟩), .pointer (some ⟨kb, 0, none⟩)] w fun e w' => e = .returned (.tuple #[]) ∧ ∃ v' D', Unlinked (v.tick 1) v' s P' ∧ StR w lab w' v' ∧ StAt v' D' M := by
  have hin : (s, r) ∈ v.P := by rw [hP]; simp
  have hrow := row_in hat hin
  have HB := hide (fun (w2 : World) (lab2 : Lab) (v2 : StV) (m2 : StM w2 lab2 v2) (e1 : v2.x = v.x) (e2 : v2.un = v.un) (e3 : v2.U = v.U) => show w2.cell? ⟨sb, 0, none⟩ = some (.pointer (some ⟨v.x, 0, none⟩)) ∧ w2.cell? ⟨kb, 0, none⟩ = some (.slice A n c) from by
    obtain ⟨sb', kb', h1, h2, -, h4, -⟩ := m2.und (by rw [e2]; exact hu) (by rw [e3]; exact hz)
    injection h1 with _ _ h1
    have h5 : sb = sb' ∧ kb = kb' := by simpa using h1
    obtain ⟨rfl, rfl⟩ := h5
    exact ⟨by rw [← e1]; exact h2.cell 0, h4.cell 0⟩)
  have HR := hide (show ArgR w A n r from by
    obtain ⟨sb', kb', h1, h2, -, h4, -, h6⟩ := h.und hu hz
    exact ⟨h6.1, by have := h6.1.len; omega, hrow.2.2.1, hrow.2.2.2⟩)
  have HSl := hide (fun (w1 : World) (h1 : Ext w w1) => slot_any (h.ext h1) (by omega) c (HR.out.ext h1) (by have := pk_le r; omega))
  have HUn := hide (fun (w2 : World) (lab2 : Lab) (m2 : StM w2 lab2 (v.tick 1)) => unlink_any m2 (D := D) (N := N) (M := M) ⟨⟨hat.row.width, hat.row.most, hat.row.gsl, hat.row.gs, hat.row.rows, hat.row.slots, hat.row.vals, hat.row.alive, hat.row.lv, hat.row.refs, hat.row.ents, hat.row.gx⟩, hat.lan, hat.gen⟩ hM1 hM2 hM (by show v.K + 1 ≤ _; omega) (P1 := P') (P2 := []) (s := s) (r := r) hP)
  have HS := hide (fun (o : Option Int) (ho : SlotAt v r o) => show o = some (s : Int) from by
    have h1 := ho.spec hat.row hrow.2.2.2
    cases o with
    | none => exact absurd (List.mem_map.2 ⟨_, hin, rfl⟩) (h1.2 rfl)
    | some z =>
      obtain ⟨s', rfl, h3⟩ := h1.1 z rfl
      rw [slot_of hat.row hin h3])
  have HH := hide h
  rw [show (v.tick 1).x = v.x from rfl] at HUn
  clear hu hz hP hin hrow HR h hat hM1 hM2
  go_enter Try.func78, Try.ntmps78
  go_upto_region 0 with fail
  refine wp_region_line [true, true, true, false, false] (fun w' => w'.cell? ⟨sb, 0, none⟩ = some (.pointer (some ⟨v.x, 0, none⟩)) ∧ w'.cell? ⟨kb, 0, none⟩ = some (.slice A n c)) (by kernel_rfl) (by kernel_rfl) (fun _ _ _ _ _ h => h) ?_ ?_
  · exact fun w' hw' => HB.out w' lab v (HH.out.ext hw') rfl rfl rfl
  intro wq hwq
  unfold wpL
  apply Exists.intro
  refine ⟨fun w9 h9 => ?_, fun K hK => ?_⟩
  · go_simp; first | done | rfl
  go_simp; refine hK _ ?_; clear hK K
  unfold wpL
  apply Exists.intro
  refine ⟨fun w9 h9 => ?_, fun K hK => ?_⟩
  · go_simp; first | done | rfl
  go_simp; refine hK _ ?_; clear hK K
  unfold wpL
  apply Exists.intro
  refine ⟨fun w9 h9 => ?_, fun K hK => ?_⟩
  · go_simp; first | done | rfl
  go_simp; refine hK _ ?_; clear hK K
  unfold wpL
  go_wp2_with ((with_reducible refine (HSl.out wq hwq).mono ?_); rintro e w3 ⟨o, h5, rfl, h6⟩; obtain ⟨lab3, m3, st3⟩ := step_of h6; have L3 := hide h5; have M3 := hide m3; have S3 := hide st3; clear h5 h6 m3 st3)
  simp only [exL]
  refine ⟨HB.out w3 lab3 _ M3.out rfl rfl rfl, ?_⟩
  obtain rfl := HS.out o L3.out
  dsimp only [Option.getD]
  unfold wpL
  go_wp2_with ((with_reducible refine (HUn.out w3 lab3 M3.out).mono ?_); rintro e w4 ⟨bh, v', D', rfl, h1, -, -, ⟨lab4, m4, d4, c4, -⟩, h7⟩; have U4 := hide h1; have A4 := hide h7; have M4 := hide m4; have D4 := hide d4; have C4 := hide c4; clear h1 h7 m4 d4 c4)
  simp only [exL]
  refine ⟨HB.out w4 lab4 _ M4.out U4.out.kept.x U4.out.kept.un U4.out.kept.U, ?_⟩
  unfold wpL
  clear HB HSl HUn
  go_end0
  have hst := step_pre (show Step w lab wq lab from ⟨fun _ hb => .inl hb, Chg.of hwq⟩) (Ext.refl wq)
  have hst2 := step_on (step_on hst S3.out) ⟨D4.out, C4.out⟩
  have hU4 := U4.out
  rw [List.append_nil] at hU4
  exact ⟨rfl, v', D', hU4, ⟨lab4, M4.out, hst2.1, hst2.2⟩, A4.out⟩
end Go.Proofs.Ytahdiiaadjdmcaa
