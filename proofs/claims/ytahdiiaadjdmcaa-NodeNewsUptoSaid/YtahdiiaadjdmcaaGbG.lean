/-
  store: unlink, its plain part: what is known of a store while a row is taken out of its lists.
  store: unlink: a row is taken out of all its lists.
  store: lay: all parts anew and empty.
-/
import Derived.Test.YtahdiiaadjdmcaaStoE
namespace Go.Proofs.Ytahdiiaadjdmcaa
open Go.RowKit

/-- lane k still shows the row: its list -/
theorem lane_here {L : Nat} {gs : List (List Nat)} {G : Nat → Ents} {cont : Nat → List Nat} {sL : List (Slt Value)} {lL : Nat} {lrefs : IMap} {D : Nat → List (List V × Nat)} {Q : Nat → List SRow} (h : StLan L gs G cont sL lL lrefs D Q) {k : Nat} {g : List Nat} (hg : gs[k]? = some g) {P1 P2 : List SRow} {s : Nat} {r : List V} (hQ : Q (k + 1) = P1 ++ (s, r) :: P2) :
    ∃ n, (keyR g r, n) ∈ D k ∧ cont n = grpC L k g P1 (keyR g r) ++ (s * L + (k + 1)) :: grpC L k g P2 (keyR g r) := by
  have hl := h.lane k g hg
  have h1 := (hl.mem (keyR g r)).2 ⟨(s, r), by rw [hQ]; simp, rfl⟩
  rw [List.mem_map] at h1
  obtain ⟨⟨key, n⟩, hd, e⟩ := h1
  dsimp only at e
  subst e
  refine ⟨n, hd, ?_⟩
  have h2 := hl.cont _ hd
  rw [hQ] at h2
  dsimp only at h2
  rw [h2, grpC_append, grpC_cons_eq]
/-- what shut leaves in lane k -/
structure ShutTo (v v' : StV) (Q' : Nat → List SRow) : Prop where
  kept : Kept v v'
  row : StRow v'
  P : v'.P = v.P
  sl : v'.sl = v.sl
  fr : v'.fr = v.fr
  refs : v'.refs = v.refs
  E : v'.E = v.E
  lv : v'.lv = v.lv
  K : v'.K ≤ v.K + 3
  fin : ∃ D', StLan v'.L v'.gs v'.G v'.cont v'.sL v'.lL v'.lrefs D' Q'
  gen : ∀ i, genA v'.sL i = genA v.sL i
open Classical in
set_option maxRecDepth 100000 in
/-- the list of lane k's key is given back, if it is empty -/
theorem shut_lane {w : World} {lab : Lab} {v : StV} {D : Nat → List (List V × Nat)} {Q : Nat → List SRow} (hr : StRow v) (hlan : StLan v.L v.gs v.G v.cont v.sL v.lL v.lrefs D Q) (hgen : ∀ i, genA v.sL i < 1073741824) (hK : v.K ≤ 4611686018427387000)
    {k : Nat} {g : List Nat} (hg : v.gs[k]? = some g) {P1 P2 : List SRow} {s n0 : Nat} {r : List V} (hQ : Q (k + 1) = P1 ++ (s, r) :: P2) (hQr : ∀ p ∈ P1 ++ (s, r) :: P2, fitsR v.width p.2 = true ∧ smallR p.2 ∧ wfR p.2)
    (hd : (keyR g r, n0) ∈ D k) (h : StM w lab { v with cont := upd v.cont n0 (grpC v.L k g P1 (keyR g r) ++ grpC v.L k g P2 (keyR g r)) })
    {A : Option Addr} {n : Nat} (c : Nat) (ha : ArgR w A n (keyR g r)) (hA : ∀ a, A = some a → ¬ lab.dom a.block) :
    Calls Try.prog 90 #[.pointer (some ⟨v.x, 0, none⟩), .int .i64 k, .slice A n c] w fun e w' => ∃ v' : StV, e = .returned (.tuple #[]) ∧ StR w lab w' v' ∧ ShutTo v v' (upd Q (k + 1) (P1 ++ P2)) := by
  have hk := gs_lt hg
  obtain ⟨hfit, hsm, hwf⟩ := hQr (s, r) (by simp)
  have hkg := gs_good hr hg hfit hsm hwf
  have hlane := hlan.lane k g hg
  rw [hQ] at hlane
  have hkeys := hr.keys hg hlane hQr
  have hgx : ∃ xk, v.gx[k]? = some xk := ⟨_, List.getElem?_eq_getElem (by rw [hr.gx]; exact hk)⟩
  obtain ⟨xk, hxk⟩ := hgx
  have hgl := (hr.gs g (List.mem_of_getElem? hg)).1
  have hq : (pk (keyR g r), (n0 : Int)) ∈ v.G k := (hlane.entry hkeys hkg).2 ⟨n0, hd, rfl⟩
  have hli := hlan.lists k _ hk hd
  have hi : n0 - 1 < v.most * v.L := by
    have h2 := thg_lt hli.2.1
    have h3 := (h.part 5).ok.len
    exact Nat.lt_of_lt_of_le h2 h3
  have h1n : 1 ≤ n0 := hli.1
  have hKO : KeyOk { v with cont := upd v.cont n0 (grpC v.L k g P1 (keyR g r) ++ grpC v.L k g P2 (keyR g r)) } k xk g (keyR g r) := ⟨hg, by omega, hxk, hkg.len, hkg.ok, pk_le _, hlane.one hkeys hkg⟩
  have hinj : ∀ d ∈ D k, ∀ e ∈ D k, d.2 = e.2 → d = e := fun d hd2 e he he2 => (hlan.nums k k d e hk hk hd2 he he2).2
  by_cases hst : ∃ p ∈ P1 ++ P2, keyR g p.2 = keyR g r
  · have hne : upd v.cont n0 (grpC v.L k g P1 (keyR g r) ++ grpC v.L k g P2 (keyR g r)) n0 ≠ [] := by
      rw [upd_same, ← grpC_append]
      intro e
      obtain ⟨p, hp, hpk⟩ := hst
      exact (grpC_nil_iff _ _ _ _ _).1 e p hp hpk
    refine (shut_kept h (by show v.K ≤ _; exact hK) hKO c ha (q := n0) hq (by show n0 < v.most * v.L + 1; omega) hne).mono ?_
    rintro e w' ⟨rfl, h1⟩
    refine ⟨_, rfl, h1, ⟨⟨rfl, rfl, rfl, rfl, rfl, rfl, rfl, rfl, rfl⟩, ⟨hr.width, hr.most, hr.gsl, hr.gs, hr.rows, hr.slots, hr.vals, hr.alive, hr.lv, hr.refs, hr.ents, hr.gx⟩, rfl, rfl, rfl, rfl, rfl, rfl, by show v.K + 1 ≤ v.K + 3; omega, ⟨D, ?_⟩, fun _ => rfl⟩⟩
    refine hlan.step hk hd fun g' hg' => ?_
    obtain rfl : g = g' := Option.some.inj (hg.symm.trans hg')
    exact hlane.shrink hd hinj hst
  · have hno : ∀ p ∈ P1 ++ P2, keyR g p.2 ≠ keyR g r := fun p hp e => hst ⟨p, hp, e⟩
    have e1 : grpC v.L k g P1 (keyR g r) = [] := (grpC_nil_iff v.L k g P1 _).2 fun p hp => hno p (List.mem_append_left _ hp)
    have e2 : grpC v.L k g P2 (keyR g r) = [] := (grpC_nil_iff v.L k g P2 _).2 fun p hp => hno p (List.mem_append_right _ hp)
    obtain ⟨i, rfl⟩ : ∃ i, n0 = i + 1 := ⟨n0 - 1, by omega⟩
    rw [Nat.add_sub_cancel] at hi
    have hli2 := hli.2.1
    dsimp only at hli2
    rw [Nat.add_sub_cancel] at hli2
    obtain ⟨u, hu⟩ := Option.isSome_iff_exists.1 hli2
    obtain ⟨gn, hgn⟩ := thg_some hu
    have hgn2 : genA v.sL i = gn := genA_at hgn
    have href := hli.2.2
    dsimp only at href
    rw [Nat.add_sub_cancel, hgn2] at href
    have hm1 := hr.most
    have hg4 := hr.gsl
    have hLg : v.L = v.gs.length + 1 := rfl
    have hmL : v.most * v.L ≤ 1048576 := Nat.le_trans (Nat.mul_le_mul hm1.2 (show v.L ≤ 5 by omega)) (by omega)
    refine (shut_gone h (by show v.K ≤ _; exact hK) hKO c ha hA (i := i) (gn := gn) (u := u) (by rw [Int.natCast_add] at hq; exact hq) hi hmL (by show upd v.cont (i + 1) _ (i + 1) = []; rw [upd_same, e1, e2]; rfl) hgn (by have := hgen i; omega) href).mono ?_
    rintro e w' ⟨rfl, E', hE', h1⟩
    refine ⟨_, rfl, h1, ⟨⟨rfl, rfl, rfl, rfl, rfl, rfl, rfl, rfl, rfl⟩, ⟨hr.width, hr.most, hr.gsl, hr.gs, hr.rows, hr.slots, hr.vals, hr.alive, hr.lv, hr.refs, hr.ents, hr.gx⟩, rfl, rfl, rfl, rfl, rfl, rfl, by show v.K + 3 ≤ v.K + 3; omega, ⟨upd D k ((D k).erase (keyR g r, i + 1)), ?_⟩, fun j => ?_⟩⟩
    · rw [e1, e2]
      refine hlan.stepGone (key := keyR g r) hk hd hgn fun g' hg' => ?_
      obtain rfl : g = g' := Option.some.inj (hg.symm.trans hg')
      exact hlane.gone hd hinj hno (by rw [Int.natCast_add]; exact hE') []
    · show genA (v.sL.set i (gn, none)) j = genA v.sL j
      rw [genA_set (List.getElem?_eq_some_iff.1 hgn).1]
      by_cases hj : j = i
      · rw [if_pos hj, hj, hgn2]
      · rw [if_neg hj]
/-- the rows behind a row's going -/
theorem StRow.unlink {v : StV} (h : StRow v) {s gn : Nat} {r : List V} {P1 P2 : List SRow} {u : Value} (hP : v.P = P1 ++ (s, r) :: P2) (hs : v.sl[s]? = some (gn, some u)) {E' : Ents} (hE : List.Perm v.E ((pk r, (s : Int)) :: E')) (fr : List Nat) (K : Nat) :
    StRow { v with sl := v.sl.set s (gn, none), fr := fr, lv := v.lv - 1, P := P1 ++ P2, refs := v.refs.del s, E := E', K := K } := by
  have hil := (List.getElem?_eq_some_iff.1 hs).1
  have hperm : List.Perm v.P ((s, r) :: (P1 ++ P2)) := by rw [hP]; exact List.perm_middle
  have hsub : ∀ p, p ∈ P1 ++ P2 → p ∈ v.P := fun p hp => hperm.mem_iff.2 (List.mem_cons_of_mem _ hp)
  have hnd1 := (hperm.map (·.1)).nodup_iff.1 h.slots
  have hnd2 := (hperm.map (·.2)).nodup_iff.1 h.vals
  simp only [List.map_cons, List.nodup_cons] at hnd1 hnd2
  refine ⟨h.width, h.most, h.gsl, h.gs, fun p hp => h.rows p (hsub p hp), hnd1.2, hnd2.2, fun i => ?_, ?_, fun p hp => ?_, ?_, h.gx⟩
  · show (thg (v.sl.set s (gn, none)) i).isSome = true ↔ i ∈ (P1 ++ P2).map (·.1)
    rw [thg_set hil]
    by_cases hi : i = s
    · subst hi
      rw [if_pos rfl]
      exact ⟨fun h1 => (by cases h1), fun h1 => absurd h1 hnd1.1⟩
    · rw [if_neg hi, h.alive i, (hperm.map (·.1)).mem_iff]
      simp only [List.map_cons, List.mem_cons]
      exact ⟨fun h1 => h1.resolve_left hi, .inr⟩
  · show v.lv - 1 = (P1 ++ P2).length
    have h1 := hperm.length_eq
    have h2 := h.lv
    simp only [List.length_cons] at h1
    omega
  · show (v.refs.del s) p.1 = some (.agg #[.int .i64 p.1, .int .i64 (genA (v.sl.set s (gn, none)) p.1 : Int)])
    have hne : p.1 ≠ s := fun e => hnd1.1 (by rw [← e]; exact List.mem_map.2 ⟨p, hp, rfl⟩)
    rw [genA_set hil, if_neg hne, IMap.del, if_neg hne]
    exact h.refs p (hsub p hp)
  · show List.Perm E' ((P1 ++ P2).map fun p => (pk p.2, (p.1 : Int)))
    have h1 := hE.symm.trans (h.ents.trans (hperm.map fun p : SRow => (pk p.2, (p.1 : Int))))
    simp only [List.map_cons] at h1
    exact (List.perm_cons _).1 h1
theorem StRow.ent {v : StV} (h : StRow v) {s : Nat} {r : List V} (hp : (s, r) ∈ v.P) : (pk r, (s : Int)) ∈ v.E ∧ ∀ a b, (pk r, a) ∈ v.E → (pk r, b) ∈ v.E → a = b := by
  have hin : (pk r, (s : Int)) ∈ v.E := h.ents.mem_iff.2 (List.mem_map.2 ⟨(s, r), hp, rfl⟩)
  have hval : ∀ p ∈ v.P, validR p.2 = true ∧ wfR p.2 := fun p hp => by
    have h1 := h.rows p hp
    have h2 := h1.1
    unfold fitsR at h2
    rw [Bool.and_eq_true] at h2
    exact ⟨h2.2, h1.2.2⟩
  have hone : ∀ a, (pk r, a) ∈ v.E → a = (s : Int) := fun a ha => by
    obtain ⟨p, hp2, e⟩ := List.mem_map.1 (h.ents.mem_iff.1 ha)
    injection e with e1 e2
    have h1 := hval p hp2
    have h2 := hval _ hp
    have h3 := pk_inj h1.1 h1.2 h2.1 h2.2 e1
    have h4 : p = (s, r) := val_inj h.vals hp2 hp h3
    rw [← e2, h4]
  exact ⟨hin, fun a b ha hb => (hone a ha).trans (hone b hb).symm⟩
where
  val_inj {P : List SRow} (h : (P.map (·.2)).Nodup) {p q : SRow} (hp : p ∈ P) (hq : q ∈ P) (e : p.2 = q.2) : p = q := by
    obtain ⟨i, hi⟩ := List.mem_iff_getElem?.1 hp
    obtain ⟨j, hj⟩ := List.mem_iff_getElem?.1 hq
    have h4 : (P.map (·.2))[i]? = (P.map (·.2))[j]? := by rw [List.getElem?_map, List.getElem?_map, hi, hj]; simp [e]
    have h5 : i < (P.map (·.2)).length := by rw [List.length_map]; exact (List.getElem?_eq_some_iff.1 hi).1
    have h6 := (List.getElem?_inj h5 h).1 h4
    subst h6
    exact Option.some.inj (hi.symm.trans hj)
end Go.Proofs.Ytahdiiaadjdmcaa

namespace Go.Proofs.Ytahdiiaadjdmcaa
open Go.RowKit

/-- what unlink leaves -/
structure Unlinked (v v' : StV) (s : Nat) (P' : List SRow) : Prop where
  kept : Kept v v'
  P : v'.P = P'
  fs : fsOf v'.most v'.sl v'.fr = s :: fsOf v.most v.sl v.fr
  K : v'.K ≤ v.K + 20
  gs : ∀ i, genA v'.sl i = genA v.sl i
  gL : ∀ i, genA v'.sL i = genA v.sL i
theorem StGen.low {sl sL : List (Slt Value)} {M : Nat} (h1 : ∀ i, genA sl i < M) (h2 : ∀ i, genA sL i < M) : StGen sl sL M :=
  ⟨fun i => by have := h1 i; split <;> omega, fun i => by have := h2 i; split <;> omega⟩
/-- unlink's rounds: l lanes are done -/
def UnInv (w : World) (lab : Lab) (v : StV) (P' : List SRow) (vals : List Value) (bh l : Nat) (w' : World) : Prop :=
  ∃ lab' v' D', StM w' lab' v' ∧ (∀ b, lab'.dom b → lab.dom b ∨ w.heap.size ≤ b) ∧ Chg lab.dom w w' ∧ Kept v v' ∧ v'.P = v.P ∧ v'.sl = v.sl ∧ v'.fr = v.fr ∧ v'.refs = v.refs ∧ v'.E = v.E ∧ StRow v' ∧ StLan v'.L v'.gs v'.G v'.cont v'.sL v'.lL v'.lrefs D' (Ql v.P P' l) ∧ (∀ i, genA v'.sL i = genA v.sL i) ∧ v'.K ≤ v.K + 3 * l ∧ Blk w' bh 3 (fillAt vals (.int .i64 0) l) ∧ ¬ lab'.dom bh
theorem NumAt.ofBlk {w : World} {bh : Nat} {xs : List Int} (h : Blk w bh 3 (fillAt (xs.map (Value.int .i64)) (.int .i64 0) xs.length)) (hb : xs.length ≤ 1048576) : w.ownsRow bh 3 1 (.slice (some ⟨bh, 0, none⟩) xs.length xs.length) xs.length (xs.map (Value.int .i64)) := by
  have e : fillAt (xs.map (Value.int .i64)) (.int .i64 0) xs.length = (xs.map (Value.int .i64)).toArray := by
    have h1 := fillAt_end (xs.map (Value.int .i64)) (.int .i64 0)
    rw [List.length_map] at h1
    exact h1
  rw [e] at h
  refine ⟨by simp, .inr ⟨bh, xs.length, _, rfl, Nat.le_refl _, h, Nat.le_refl _, by unfold maxLen; omega, by simp, ?_⟩⟩
  simp only [List.take_of_length_le, List.length_map, Nat.mul_one, Nat.le_refl]

theorem gen_give {sl sl0 : List (Slt Value)} {i g : Nat} {u : Value} (h : sl[i]? = some (g, some u)) (e : sl = sl0) (j : Nat) : genA (sl.set i (g, none)) j = genA sl0 j := by
  subst e
  rw [genA_set (List.getElem?_eq_some_iff.1 h).1]
  by_cases hj : j = i
  · rw [if_pos hj, hj, genA_at h]
  · rw [if_neg hj]
/-- steps of a store, one behind the other -/
def Step (w : World) (lab : Lab) (w' : World) (lab' : Lab) : Prop := (∀ b, lab'.dom b → lab.dom b ∨ w.heap.size ≤ b) ∧ Chg lab.dom w w'
theorem step_on {w w1 w2 : World} {lab lab1 lab2 : Lab} (h : Step w lab w1 lab1) (k : Step w1 lab1 w2 lab2) : Step w lab w2 lab2 :=
  ⟨fun b hb => (k.1 b hb).elim (h.1 b) fun h9 => .inr (Nat.le_trans h.2.size h9), h.2.trans k.2 fun g hg hl => (h.1 g hg).resolve_right (by omega)⟩
theorem step_pre {w w1 w2 : World} {lab lab1 : Lab} (h : Step w lab w1 lab1) (k : Ext w1 w2) : Step w lab w2 lab1 := ⟨h.1, h.2.trans' (Chg.of k)⟩
theorem cont_nd {w : World} {B : Nat → Prop} {x cells lists : Nat} {cont : Nat → List Nat} (h : HCh w B x cells lists cont) (n : Nat) : (cont n).Nodup := by
  obtain ⟨LA, cA, LE, cE, at_, en, h1, h2⟩ := h.mem
  exact h2.nd n
set_option maxRecDepth 100000 in
set_option maxHeartbeats 2000000 in
theorem unlink_any {w : World} {lab : Lab} {v : StV} {D : Nat → List (List V × Nat)} {N M : Nat} (h : StM w lab v) (hat : StAt v D N) (hM1 : ∀ i, genA v.sl i < M) (hM2 : ∀ i, genA v.sL i < M) (hM : M ≤ 1073741824) (hK : v.K ≤ 4611686018427380000)
    {P1 P2 : List SRow} {s : Nat} {r : List V} (hP : v.P = P1 ++ (s, r) :: P2) :
    Calls Try.prog 79 #[.pointer (some ⟨v.x, 0, none⟩), .int .i64 s] w fun e w' => ∃ (bh : Nat) (v' : StV) (D' : Nat → List (List V × Nat)), e = .returned (.slice (some ⟨bh, 0, none⟩) v.L v.L) ∧ Unlinked v v' s (P1 ++ P2) ∧
      w.heap.size ≤ bh ∧ w'.ownsRow bh 3 1 (.slice (some ⟨bh, 0, none⟩) v.L v.L) v.L ((aheads v.gs r P2).map (Value.int .i64)) ∧ (∃ lab', StM w' lab' v' ∧ (∀ b, lab'.dom b → lab.dom b ∨ w.heap.size ≤ b) ∧ Chg lab.dom w w' ∧ ¬ lab'.dom bh) ∧ StAt v' D' M := by
  obtain ⟨i0, hi0, hz0, hz1, hz2⟩ := info_parts infoI
  have hin : (s, r) ∈ v.P := by rw [hP]; simp
  have hrows := hat.row.rows _ hin
  obtain ⟨A, nA, c, hth, hrow⟩ := (h.part 8).1 s r hin
  obtain rfl := hrow.1.1
  obtain ⟨gn, hgn⟩ := thg_some hth
  have hgA : genA v.sl s = gn := genA_at hgn
  have href := hat.row.refs _ hin
  dsimp only at href
  rw [hgA] at href
  have hsm : s < v.most := Nat.lt_of_lt_of_le (thg_lt (by rw [hth]; rfl)) (h.part 2).ok.len
  have hmost := hat.row.most
  have hg4 := hat.row.gsl
  have hL5 : v.L ≤ 5 := by unfold StV.L; omega
  have hL0 : 0 < v.L := by unfold StV.L; omega
  have hLn := hide (show v.L = (aheads v.gs r P2).length by simp [aheads, StV.L])
  have hrl : r.length ≤ 30 := by
    have h1 := hrows.1
    unfold fitsR at h1
    rw [Bool.and_eq_true, decide_eq_true_eq] at h1
    rw [h1.1]; exact hat.row.width
  have hmk := run_make_n (P := Try.prog) 23 3 i0 _ Try.underlying23 hi0 hz0 (by omega) .i64 .i64 v.L (by omega)
  simp only [hz1] at hmk
  have a4 : w.cell? ⟨v.x, 4, none⟩ = some (.pointer (some ⟨v.xs, 0, none⟩)) := h.str.cell 4
  have a5 : w.cell? ⟨v.x, 5, none⟩ = some (.map (some v.rm)) := h.str.cell 5
  have hlk : ∀ w3, Ext w w3 → (Instr.lookup 84 (.map (some v.rm)) (.int .i64 (s : Int)) false).run Try.prog w3 = .ok (.agg #[.int .i64 s, .int .i64 gn]) w3 := fun w3 h3 => by
    obtain ⟨-, nn, -, hmap⟩ := (h.ext h3).part 3
    have h9 := run_imap 84 132 Try.underlying84 (z := .agg #[.int .i64 0, .int .i64 0]) (fun w => zref w) hmap (k := s) (by omega)
    rw [href] at h9
    exact h9
  have HAt := hide (fun (w3 : World) (h3 : Ext w w3) => arena_atR ((h.ext h3).part 2) hgn)
  have HROW := hide (fun (wx : World) (labx : Lab) (vx : StV) (hx : StM wx labx vx) (h1 : vx.sl = v.sl) (h2 : (s, r) ∈ vx.P) => show ArgR wx A r.length r from by
    obtain ⟨A', n', c', e1, e2⟩ := (hx.part 8).1 s r h2
    rw [h1, hth] at e1
    obtain ⟨rfl, rfl, rfl⟩ : A = A' ∧ r.length = n' ∧ c = c' := by injection e1 with e1; injection e1 with e1 e3 e4; exact ⟨e1, e3, e4⟩
    exact ⟨e2.1, by omega, hrows.2.1, hrows.2.2⟩)
  have HH := hide h; have HAT := hide hat; have HP := hide hP; have HIN := hide hin; have HRW := hide hrows; have HTH := hide hth; have HGN := hide hgn; have HREF := hide href; have HM1 := hide hM1; have HM2 := hide hM2; have HGA := hide hgA
  clear h hat hP hin hrows hrow hth hgn href hM1 hM2 hgA hz0 hz1 hz2 hi0
  go_enter Try.func79, Try.ntmps79
  go_upto_region 1 with fail
  have a4 := cell_ext a4; have a5 := cell_ext a5
  refine wp_region_ext 16 (by kernel_rfl) (by kernel_rfl) (by kernel_rfl) ?_
  iterate 10
    refine wpE_k (by kernel_rfl) (by kernel_rfl) ?_
    apply Exists.intro
    refine ⟨fun w1 hw1 => ?_, fun K hK => ?_⟩
    · go_simp; first | done | rfl
    go_simp; refine hK _ _ ?_; clear hK K
  iterate 1
    refine wpE_k (by kernel_rfl) (by kernel_rfl) ?_
    apply Exists.intro
    refine ⟨fun w1 hw1 => ?_, fun K hK => ?_⟩
    · go_simp; first | done | rfl | exact HAt.out _ ‹_›
    go_simp; refine hK _ _ ?_; clear hK K
  iterate 5
    refine wpE_k (by kernel_rfl) (by kernel_rfl) ?_
    apply Exists.intro
    refine ⟨fun w1 hw1 => ?_, fun K hK => ?_⟩
    · go_simp; first | done | rfl
    go_simp; refine hK _ _ ?_; clear hK K
  refine wpE_nil ⟨rfl, by kernel_rfl, fun w1 hw1 => ?_⟩
  simp only [EndQ]
  refine wpList_nil ?_
  have S1 := hide (HH.out.ext hw1); have E1 := hide hw1
  clear a4 a5 hlk HAt
  have a2 : w1.cell? ⟨v.x, 2, none⟩ = some (.int .i64 (v.L : Int)) := S1.out.str.cell 2
  clear hw1
  go_upto_region 3 with fail
  have HVL := hide (show (Value.int .i64 (1 : Int)) = .int .i64 1 from rfl)
  clear HVL
  obtain ⟨vals, hvals⟩ : ∃ vals, vals = (aheads v.gs r P2).map (Value.int .i64) := ⟨_, rfl⟩
  have hvl : vals.length = v.L := by rw [hvals, List.length_map]; exact hLn.out.symm
  have HB2 := hide (show Blk (w1.alloc (.cells (madeCells #[.int .i64 0] v.L) 3)) w1.heap.size 3 (fillAt vals (.int .i64 0) 0) by rw [← hvl, fillAt_zero]; exact Blk.new _ _ _)
  have E2 := hide (Ext.alloc w1 (.cells (madeCells #[.int .i64 0] v.L) 3))
  have hbh1 := hide (show w.heap.size ≤ w1.heap.size from E1.out.size)
  have hbh2 := hide (show ¬ lab.dom w1.heap.size from fun ⟨j, hj⟩ => by have := S1.out.lt _ _ hj; omega)
  generalize w1.alloc (.cells (madeCells #[.int .i64 0] v.L) 3) = w2 at *
  generalize w1.heap.size = bh at *
  have S2 := hide (S1.out.ext E2.out)
  have X2 := hide (E1.out.trans E2.out)
  have HVALS := hide hvals; have HVL := hide hvl
  clear hvals hvl a2 E1 E2 S1 hmk
  have a2 : w2.cell? ⟨v.x, 2, none⟩ = some (.int .i64 (v.L : Int)) := S2.out.str.cell 2
  have HINV := hide (show UnInv w lab v (P1 ++ P2) vals bh 0 w2 from ⟨lab, v, D, S2.out, fun _ hb => .inl hb, Chg.of X2.out, Kept.refl v, rfl, rfl, rfl, rfl, rfl, HAT.out.row, by rw [Ql_zero]; exact HAT.out.lan, fun _ => rfl, by omega, HB2.out, hbh2.out⟩)
  clear S2 HB2
  go_wp2_with fail
  clear a2
  go_loopw [8, 9, 10, 34] (fun _ _ _ s34 w' => ∃ l : Nat, l ≤ v.L ∧ s34 = .int .i64 l ∧ Hid (UnInv w lab v (P1 ++ P2) vals bh l w')) (fun _ _ _ s34 _ => v.L - (intOf s34).toNat)
  case atStart => exact ⟨0, by omega, rfl, HINV⟩
  case round =>
    obtain ⟨l, hlm, rfl, hI⟩ := hrel
    obtain ⟨lab1, v1, Dl, s1, d1, c1, k1, eP, esl, efr, erf, eE, R1, L1, g1, hK1, B1, hnb1⟩ := hI.out
    have S1 := hide s1; have D1 := hide d1; have C1 := hide c1; have K1 := hide k1; have EP := hide eP; have ES := hide esl; have EF := hide efr; have ER := hide erf; have EE := hide eE; have RR1 := hide R1; have LL1 := hide L1; have GG1 := hide g1; have HK1 := hide hK1; have BB1 := hide B1; have NB1 := hide hnb1
    clear s1 d1 c1 k1 eP esl efr erf eE R1 L1 g1 hK1 B1 hnb1 hI
    by_cases hlL : l < v.L
    · obtain ⟨o, ho1, ho2, ho3⟩ := aheads_at v.gs r P2 v.L l (by unfold StV.L at hlL; omega)
      have HERE := hide (show ∃ (nL : Nat) (E1 E2 : List Nat), v1.cont nL = E1 ++ (s * v.L + l) :: E2 ∧ E2.head? = o.map (fun s => s * v.L + l) ∧ (l = 0 → nL = 0 ∧ E1 = (P1.map fun p : SRow => p.1 * v.L) ∧ E2 = (P2.map fun p : SRow => p.1 * v.L)) ∧ (∀ k g, l = k + 1 → v1.gs[k]? = some g → (keyR g r, nL) ∈ Dl k ∧ E1 = grpC v.L k g P1 (keyR g r) ∧ E2 = grpC v.L k g P2 (keyR g r)) from by
        rcases Nat.eq_zero_or_pos l with rfl | hl0
        · refine ⟨0, P1.map fun p : SRow => p.1 * v.L, P2.map fun p : SRow => p.1 * v.L, ?_, ho2 rfl, fun _ => ⟨rfl, rfl, rfl⟩, fun k g e => by omega⟩
          rw [LL1.out.c0, Ql_at, HP.out, List.map_append, List.map_cons, K1.out.L]; rfl
        · obtain ⟨k, rfl⟩ : ∃ k, l = k + 1 := ⟨l - 1, by omega⟩
          have hkl : k < v.gs.length := by unfold StV.L at hlL; omega
          have hgk : v1.gs[k]? = some v.gs[k] := by rw [K1.out.gs]; exact List.getElem?_eq_getElem hkl
          obtain ⟨n, hd, hc⟩ := lane_here LL1.out hgk (P1 := P1) (P2 := P2) (s := s) (r := r) (by rw [Ql_at, HP.out])
          rw [K1.out.L] at hc
          refine ⟨n, _, _, hc, ho3 k _ rfl (List.getElem?_eq_getElem hkl), fun e => by omega, fun k' g e hg => ?_⟩
          obtain rfl : k = k' := by omega
          obtain rfl : v.gs[k] = g := Option.some.inj (hgk.symm.trans hg)
          exact ⟨hd, rfl, rfl⟩)
      obtain ⟨nL, E1, E2, hcont, hhead, hl0, hlk⟩ := HERE.out
      have HO := hide ho1; have HC := hide hcont; have HH2 := hide hhead; have HL0 := hide hl0; have HLK := hide hlk
      clear ho1 ho2 ho3 hcont hhead hl0 hlk HERE
      have hsL : s * v.L + l < v.most * v.L := by
        have h1 : s * v.L + v.L ≤ v.most * v.L := by rw [← Nat.succ_mul]; exact Nat.mul_le_mul_right _ hsm
        omega
      have hmL : v.most * v.L ≤ 327680 := Nat.le_trans (Nat.mul_le_mul hmost.2 hL5) (by omega)
      obtain ⟨q1, cl, HCL, hwl1, hwl2⟩ := wrap_cell s v.L l (by omega)
      have HNX := hide (fun (w3 : World) (h3 : Ext wr w3) => next_any ((S1.out.ext h3).part 7) (n := nL) (c := s * v.L + l) (by rw [HC.out]; simp))
      have hnx : nextOf (v1.cont nL) (s * v.L + l) = o.map fun s => s * v.L + l := by
        have hnd := cont_nd (S1.out.part 7) nL
        rw [HC.out] at hnd ⊢
        rw [nextOf_mid hnd, HH2.out]
      obtain ⟨nx, hNV⟩ : ∃ nx : Int, oi (o.map fun s => s * v.L + l) = nx := ⟨_, rfl⟩
      rw [hnx, ← HCL.out, hNV] at HNX
      have HNV := hide hNV
      clear hnx hsL hNV
      have a10 : wr.cell? ⟨v.x, 10, none⟩ = some (.pointer (some ⟨v1.xo, 0, none⟩)) := by rw [← K1.out.x]; exact S1.out.str.cell 10
      have a2 : wr.cell? ⟨v.x, 2, none⟩ = some (.int .i64 (v.L : Int)) := by rw [← K1.out.x, ← K1.out.L]; exact S1.out.str.cell 2
      go_upto_region 6 with fail
      have a10 := cell_ext a10; have a2 := cell_ext a2
      refine wp_region_ext 20 (by kernel_rfl) (by kernel_rfl) (by kernel_rfl) ?_
      iterate 14
        refine wpE_k (by kernel_rfl) (by kernel_rfl) ?_
        apply Exists.intro
        refine ⟨fun w1 hw1 => ?_, fun K hK => ?_⟩
        · go_simp; first | done | rfl
        go_simp; refine hK _ _ ?_; clear hK K
      iterate 1
        refine wpE_k (by kernel_rfl) (by kernel_rfl) ?_
        apply Exists.intro
        refine ⟨fun w1 hw1 => ?_, fun K hK => ?_⟩
        · go_simp; first | done | rfl | exact (HNX.out _ ‹_›).mono fun e w' h => ⟨h.1, by rw [h.2]; exact Ext.refl _⟩
        go_simp; refine hK _ _ ?_; clear hK K
      iterate 5
        refine wpE_k (by kernel_rfl) (by kernel_rfl) ?_
        apply Exists.intro
        refine ⟨fun w1 hw1 => ?_, fun K hK => ?_⟩
        · go_simp; first | done | rfl
        go_simp; refine hK _ _ ?_; clear hK K
      refine wpE_nil ⟨rfl, by kernel_rfl, fun w3 hw3 => ?_⟩
      simp only [EndQ]
      refine wpList_nil ?_
      have S3 := hide (S1.out.ext hw3)
      have B3 := hide (BB1.out.ext hw3)
      have C3 := hide (C1.out.trans' (Chg.of hw3))
      clear a10 a2 HNX S1 BB1 hw3
      have e1 : w3.cell? ⟨bh, l, none⟩ = some (.int .i64 0) := (B3.out.cell l).trans (fillAt_get _ _ l (by have := HVL.out; omega))
      have e2 : w3.frozen? ⟨bh, l, none⟩ = false := B3.out.frozen l
      go_upto_if 59 with fail
      have C4 := hide (C3.out.setCell (p := ⟨bh, l, none⟩) (.inr hbh1.out) (.int .i64 (-1)))
      have c4 : Chg (fun g => g = bh) w3 (w3.setCell ⟨bh, l, none⟩ (.int .i64 (-1))) := Chg.setCell (B := fun g => g = bh) (Chg.refl _ w3) (p := ⟨bh, l, none⟩) (.inl rfl) _
      have S4 := hide (S3.out.chg c4 fun g hg e => NB1.out (e ▸ hg))
      have B4 := hide (B3.out.set_ l (.int .i64 (-1)))
      have hvo : vals[l]? = some (.int .i64 (oi o)) := by rw [HVALS.out, List.getElem?_map, HO.out]; rfl
      have HVO := hide hvo
      clear e1 e2 S3 B3 C3 c4 hvo
      generalize w3.setCell ⟨bh, l, none⟩ (.int .i64 (-1)) = w4 at *
      go_cut [9] from 35 to 93 (fun _ wx => Hid (StM wx lab1 v1) ∧ Hid (Chg lab.dom w wx) ∧ Hid (Blk wx bh 3 (fillAt vals (.int .i64 0) (l + 1))))
      case first =>
        cases o with
        | none =>
          obtain rfl : -1 = nx := HNV.out
          go_wp2_with fail
          go_meet
          refine ⟨S4, C4, ?_⟩
          rw [← fillAt_set _ _ l _ HVO.out]; exact B4
        | some a =>
          have hac : ∃ ca : Nat, Hid (ca = a * v.L + l) ∧ (0 : Int) ≤ (ca : Int) ∧ (ca : Int).tdiv (v.L : Int) = (a : Int) := ⟨a * v.L + l, rfl, by omega, by
            have h1 : (a * v.L + l) / v.L = a := by rw [Nat.mul_comm, Nat.mul_add_div hL0, Nat.div_eq_of_lt hlL, Nat.add_zero]
            rw [Int.tdiv_eq_ediv_of_nonneg (by omega), ← Int.natCast_ediv, h1]⟩
          obtain ⟨ca, HCA, hca0, hca1⟩ := hac
          obtain rfl : (ca : Int) = nx := by rw [HCA.out]; exact HNV.out
          have a2 : w4.cell? ⟨v.x, 2, none⟩ = some (.int .i64 (v.L : Int)) := by rw [← K1.out.x, ← K1.out.L]; exact S4.out.str.cell 2
          have e1 : w4.cell? ⟨bh, l, none⟩ = some (.int .i64 (-1)) := (B4.out.cell l).trans (by rw [Array.getElem?_setIfInBounds_self_of_lt]; rw [fillAt_size _ _ _ (by have := HVL.out; omega)]; have := HVL.out; omega)
          have e2 : w4.frozen? ⟨bh, l, none⟩ = false := B4.out.frozen l
          have hL1 : ¬ (v.L : Int) = 0 := by omega
          have hwa : wrap64 (a : Int) = (a : Int) := by
            have h1 : (a * v.L + l) ∈ v1.cont nL := by
              obtain ⟨y, hy⟩ : ∃ y, E2 = (a * v.L + l) :: y := by
                have h1 := HH2.out
                cases E2 with
                | nil => cases h1
                | cons x y =>
                  simp only [List.head?_cons, Option.map_some, Option.some.injEq] at h1
                  exact ⟨y, by rw [h1]⟩
              rw [HC.out, hy]; simp
            have h2 := cont_lt (S4.out.part 7) h1
            rw [K1.out.most, K1.out.L] at h2
            have h3 : a ≤ a * v.L := Nat.le_mul_of_pos_right _ hL0
            exact IntWalk.wrap64_in _ (by omega)
          go_wp2_with fail
          go_meet
          have c5 : Chg (fun g => g = bh) w4 (w4.setCell ⟨bh, l, none⟩ (.int .i64 a)) := Chg.setCell (B := fun g => g = bh) (Chg.refl _ w4) (p := ⟨bh, l, none⟩) (.inl rfl) _
          refine ⟨hide (S4.out.chg c5 fun g hg e => NB1.out (e ▸ hg)), hide (C4.out.setCell (p := ⟨bh, l, none⟩) (.inr hbh1.out) _), ?_⟩
          have h1 := B4.out.set_ l (.int .i64 (a : Int))
          have hv2 : vals[l]? = some (.int .i64 (a : Int)) := HVO.out
          rw [Array.setIfInBounds_setIfInBounds, fillAt_set _ _ l _ hv2] at h1
          exact h1
      case rest =>
        obtain ⟨S5, C5, B5⟩ := hcut
        clear S4 C4 B4
        have a10 : wc.cell? ⟨v.x, 10, none⟩ = some (.pointer (some ⟨v1.xo, 0, none⟩)) := by rw [← K1.out.x]; exact S5.out.str.cell 10
        have a2 : wc.cell? ⟨v.x, 2, none⟩ = some (.int .i64 (v.L : Int)) := by rw [← K1.out.x, ← K1.out.L]; exact S5.out.str.cell 2
        go_upto_region 10 with fail
        have a10 := cell_ext a10; have a2 := cell_ext a2
        refine wp_region_ext 12 (by kernel_rfl) (by kernel_rfl) (by kernel_rfl) ?_
        iterate 12
          refine wpE_k (by kernel_rfl) (by kernel_rfl) ?_
          apply Exists.intro
          refine ⟨fun w1 hw1 => ?_, fun K hK => ?_⟩
          · go_simp; first | done | rfl
          go_simp; refine hK _ _ ?_; clear hK K
        refine wpE_nil ⟨rfl, by kernel_rfl, fun w6 hw6 => ?_⟩
        simp only [EndQ, List.drop]
        clear a10 a2
        have HRem := hide ((S5.out.ext hw6).remove HC.out)
        rw [← HCL.out] at HRem
        have X6 := hide hw6
        clear hw6
        go_upto_if 83 with ((with_reducible refine HRem.out.mono ?_); rintro e w7 ⟨rfl, lab7, s7, d7, c7⟩; have S7 := hide s7; have D7 := hide d7; have C7 := hide c7; clear s7 d7 c7)
        have B6 := hide (B5.out.ext X6.out)
        have B7 := hide (C7.out.blk B6.out NB1.out)
        have NB7 := hide (show ¬ lab7.dom bh from fun hd => by
          rcases D7.out _ hd with h9 | h9
          · exact NB1.out h9
          · have := B6.out.lt; omega)
        have CC7 := hide ((C5.out.trans' (Chg.of X6.out)).trans C7.out fun g hg hl => (D1.out g hg).resolve_right (by omega))
        have DD7 := hide (show ∀ b, lab7.dom b → lab.dom b ∨ w.heap.size ≤ b from fun b hb => by
          rcases D7.out b hb with h9 | h9
          · exact D1.out b h9
          · exact .inr (Nat.le_trans C5.out.size (Nat.le_trans X6.out.size h9)))
        clear HRem B5 B6 X6 C7 D7
        rcases Nat.eq_zero_or_pos l with rfl | hl0
        · go_wp2_with fail
          go_roundw
          case rel =>
            refine ⟨1, by omega, by go_num, lab7, _, Dl, S7.out, DD7.out, CC7.out, ⟨K1.out.x, K1.out.width, K1.out.most, K1.out.gs, K1.out.marked, K1.out.uA, K1.out.uC, K1.out.un, K1.out.U⟩, EP.out, ES.out, EF.out, ER.out, EE.out, ?_, ?_, GG1.out, ?_, B7.out, NB7.out⟩
            · have hR := RR1.out
              exact ⟨hR.width, hR.most, hR.gsl, hR.gs, hR.rows, hR.slots, hR.vals, hR.alive, hR.lv, hR.refs, hR.ents, hR.gx⟩
            · obtain ⟨rfl, rfl, rfl⟩ := HL0.out (by first | trivial | rfl)
              have h1 := LL1.out.step0 (P1 ++ P2)
              have h2 : (P1.map fun p : SRow => p.1 * v.L) ++ (P2.map fun p : SRow => p.1 * v.L) = (P1 ++ P2).map fun p : SRow => p.1 * v1.L := by rw [List.map_append, K1.out.L]
              rw [Ql_upd] at h1
              rw [h2]
              exact h1
            · have := HK1.out
              show v1.K ≤ v.K + 3 * 1
              omega
          case measure => simp [intOf]; omega
        · obtain ⟨k, rfl⟩ : ∃ k, l = k + 1 := ⟨l - 1, by omega⟩
          have hkl : k < v.gs.length := by unfold StV.L at hlL; omega
          have hgk : v1.gs[k]? = some v.gs[k] := by rw [K1.out.gs]; exact List.getElem?_eq_getElem hkl
          obtain ⟨hd, rfl, rfl⟩ := HLK.out k _ rfl hgk
          have hgl := (RR1.out.gs _ (List.mem_of_getElem? hgk)).1
          have hARG := HROW.out w7 lab7 _ S7.out ES.out (by rw [show ({ v1 with cont := upd v1.cont nL (grpC v.L k v.gs[k] P1 (keyR v.gs[k] r) ++ grpC v.L k v.gs[k] P2 (keyR v.gs[k] r)) } : StV).P = v1.P from rfl, EP.out]; exact HIN.out)
          have HKey := hide (key_any S7.out hgk (by omega) (by show v1.gs.length ≤ _; have := RR1.out.gsl; omega) c hARG)
          have hkg := gs_good RR1.out hgk (r := r) (by rw [K1.out.width]; exact HRW.out.1) HRW.out.2.1 HRW.out.2.2
          have HShut := hide (fun (A' : Option Addr) (c' : Nat) (w8 : World) (hx : Ext w7 w8) (ho : w8.ownsRow w7.heap.size 59 3 (.slice A' (keyR v.gs[k] r).length c') (keyR v.gs[k] r).length (cellsR (keyR v.gs[k] r))) =>
            shut_lane RR1.out LL1.out (fun i => by rw [GG1.out i]; have := HM2.out i; omega) (by have := HK1.out; omega) hgk (P1 := P1) (P2 := P2) (s := s) (r := r) (n0 := nL) (by rw [Ql_at, HP.out])
              (fun p hp => by rw [K1.out.width]; rw [← HP.out] at hp; exact HAT.out.row.rows p hp) hd (lab := lab7) (w := w8) (by rw [K1.out.L]; exact S7.out.ext hx) c'
              ⟨RowAt.own ho, by rw [hkg.len]; omega, hkg.small, hkg.wf⟩ (fun a ha ⟨j, hj⟩ => by have h1 := own_ge ho a ha; have h2 := S7.out.lt _ _ hj; omega))
          rw [show ({ v1 with cont := upd v1.cont nL (grpC v.L k v.gs[k] P1 (keyR v.gs[k] r) ++ grpC v.L k v.gs[k] P2 (keyR v.gs[k] r)) } : StV).x = v1.x from rfl, K1.out.x] at HKey
          rw [K1.out.x] at HShut
          have hk1 : (((k + 1 : Nat) : Int) - 1) = (k : Int) := by omega
          have HGSL := hide (show wr.heap.size ≤ wr.heap.size from Nat.le_refl _)
          clear hgk hARG hkg hgl hd
          go_wp2_with (first
            | ((with_reducible refine HKey.out.mono ?_); rintro e w8 ⟨A8, c8, rfl, h8, x8⟩; have O8 := hide h8; have X8 := hide x8; clear h8 x8)
            | ((with_reducible refine (HShut.out A8 c8 w8 X8.out O8.out).mono ?_); rintro e w9 ⟨v9, rfl, ⟨lab9, s9, d9, c9⟩, br⟩; have S9 := hide s9; have D9 := hide d9; have C9 := hide c9; have BR := hide br; clear s9 d9 c9 br))
          go_roundw
          case rel =>
            have hB8 := B7.out.ext X8.out
            obtain ⟨Dn, hDn⟩ := BR.out.fin
            rw [Ql_upd] at hDn
            refine ⟨k + 1 + 1, by omega, by go_num, lab9, v9, Dn, S9.out, fun b hb => ?_, (CC7.out.trans' (Chg.of X8.out)).trans C9.out fun g hg hl => (DD7.out g hg).resolve_right (by omega), K1.out.trans BR.out.kept, BR.out.P.trans EP.out, BR.out.sl.trans ES.out, BR.out.fr.trans EF.out, BR.out.refs.trans ER.out, BR.out.E.trans EE.out, BR.out.row, hDn, fun i => (BR.out.gen i).trans (GG1.out i), ?_, C9.out.blk hB8 NB7.out, fun hd => ?_⟩
            · rcases D9.out b hb with h9 | h9
              · exact DD7.out b h9
              · exact .inr (Nat.le_trans CC7.out.size (Nat.le_trans X8.out.size h9))
            · have h1 := BR.out.K
              have h2 := HK1.out
              omega
            · rcases D9.out _ hd with h9 | h9
              · exact NB7.out h9
              · have := hB8.lt; omega
          case measure => simp [intOf]; omega
    · obtain rfl : l = v.L := by omega
      have hin1 : (s, r) ∈ v1.P := by rw [EP.out]; exact HIN.out
      have hARG := hide (HROW.out wr lab1 v1 S1.out ES.out hin1)
      have HPk := hide (fun w6 (h2 : Ext wr w6) => pack_any c (hARG.out.ext h2))
      have a6 : wr.cell? ⟨v.x, 6, none⟩ = some (.pointer (some ⟨v1.xw, 0, none⟩)) := by rw [← K1.out.x]; exact S1.out.str.cell 6
      have hent := hide (RR1.out.ent hin1)
      go_upto_region 14 with fail
      have a6 := cell_ext a6
      clear hin1
      refine wp_region_ext 6 (by kernel_rfl) (by kernel_rfl) (by kernel_rfl) ?_
      iterate 5
        refine wpE_k (by kernel_rfl) (by kernel_rfl) ?_
        apply Exists.intro
        refine ⟨fun w1 hw1 => ?_, fun K hK => ?_⟩
        · go_simp; first | done | rfl
        go_simp; refine hK _ _ ?_; clear hK K
      refine wpE_p [] (fun u w2 => OwnKey w2 (fun b => wr.heap.size ≤ b) u (pk r)) (fun u w2 w3 _ h2 h3 => h3.ext h2) rfl (by kernel_rfl) (fun w9 hw9 => ?_) ?_
      · clear a6
        simp only [LookQ]
        go_simp
        refine ⟨Ext.refl _, (HPk.out w9 hw9).mono fun e w' h => ?_⟩
        obtain ⟨K, rfl, h2, h3⟩ := h
        exact ⟨K, rfl, h3, h2.mono fun b hb => Nat.le_trans hw9.size hb⟩
      refine wpE_nil ⟨rfl, by kernel_rfl, fun w3 hw3 => ?_⟩
      simp only [EndQ]
      intro K hKk
      obtain ⟨A1, n1, c1, rfl, hk1, hk2⟩ := hKk.at_
      simp only [List.drop]
      have S3 := hide (S1.out.ext hw3)
      obtain rfl := hk1.len
      have HDel := hide (S3.out.del_where (by have := HK1.out; omega) c1 hk1 (S1.out.aside (Nat.le_refl _) hk2) (by have := pk_le r; omega) hent.out.1 hent.out.2)
      have E3 := hide hw3
      clear hKk hk1 hk2 a6 hw3 HPk
      go_upto_region 15 with ((with_reducible refine HDel.out.mono ?_); rintro e w4 ⟨rfl, E', hE', lab4, s4, d4, c4⟩; have P4 := hide hE'; have S4 := hide s4; have D4 := hide d4; have C4 := hide c4; clear hE' s4 d4 c4)
      clear HDel
      have a4 : w4.cell? ⟨v.x, 4, none⟩ = some (.pointer (some ⟨v1.xs, 0, none⟩)) := by rw [← K1.out.x]; exact S4.out.str.cell 4
      have a5 : w4.cell? ⟨v.x, 5, none⟩ = some (.map (some v1.rm)) := by rw [← K1.out.x]; exact S4.out.str.cell 5
      have hgn1 : v1.sl[s]? = some (gn, some (.slice A r.length c)) := by rw [ES.out]; exact HGN.out
      have HG1 := hide hgn1
      have hlk : ∀ w3, Ext w4 w3 → (Instr.lookup 84 (.map (some v1.rm)) (.int .i64 (s : Int)) false).run Try.prog w3 = .ok (.agg #[.int .i64 s, .int .i64 gn]) w3 := fun w3 h3 => by
        obtain ⟨-, nn, -, hmap⟩ := (S4.out.ext h3).part 3
        have h9 := run_imap 84 132 Try.underlying84 (z := .agg #[.int .i64 0, .int .i64 0]) (fun w => zref w) hmap (k := s) (by omega)
        have h8 : v1.refs s = some (.agg #[.int .i64 s, .int .i64 gn]) := by rw [ER.out]; exact HREF.out
        rw [show ({ v1 with E := E', K := v1.K + 1 } : StV).refs s = _ from h8] at h9
        exact h9
      clear hgn1
      have a4 := cell_ext a4; have a5 := cell_ext a5
      refine wp_region_ext 10 (by kernel_rfl) (by kernel_rfl) (by kernel_rfl) ?_
      iterate 10
        refine wpE_k (by kernel_rfl) (by kernel_rfl) ?_
        apply Exists.intro
        refine ⟨fun w1 hw1 => ?_, fun K hK => ?_⟩
        · go_simp; first | done | rfl
        go_simp; refine hK _ _ ?_; clear hK K
      refine wpE_nil ⟨rfl, by kernel_rfl, fun w5 hw5 => ?_⟩
      simp only [EndQ, List.drop]
      clear a4 a5 hlk
      have S5 := hide (S4.out.ext hw5)
      have HGv := hide (S5.out.give_row (i := s) (g := gn) HG1.out (by have := HM1.out s; rw [HGA.out] at this; omega) (P' := P1 ++ P2) (fun j q hj => by
        have hperm : List.Perm v.P ((s, r) :: (P1 ++ P2)) := by rw [HP.out]; exact List.perm_middle
        have hnd := (hperm.map (·.1)).nodup_iff.1 HAT.out.row.slots
        simp only [List.map_cons, List.nodup_cons] at hnd
        refine ⟨?_, fun e => hnd.1 (by rw [← e]; exact List.mem_map.2 ⟨_, hj, rfl⟩)⟩
        show (j, q) ∈ v1.P
        rw [EP.out]
        exact hperm.mem_iff.2 (List.mem_cons_of_mem _ hj)))
      have E5 := hide hw5
      clear hw5
      go_upto_region 16 with ((with_reducible refine HGv.out.mono ?_); rintro e w6 ⟨rfl, lab6, s6, d6, c6⟩; have S6 := hide s6; have D6 := hide d6; have C6 := hide c6; clear s6 d6 c6)
      clear HGv
      have a5 : w6.cell? ⟨v.x, 5, none⟩ = some (.map (some v1.rm)) := by rw [← K1.out.x]; exact S6.out.str.cell 5
      obtain ⟨-, nn, hn1, hmap⟩ := S6.out.part 3
      have HM := hide hmap
      have hnn := hide (show nn ≤ v1.K + 1 from hn1)
      clear hmap hn1
      go_upto_region 17 with (at_delete; refine wpList_imap_del rfl (.tmp 115) (.tmp 116) 84 132 rfl Try.underlying84 v1.rm nn v1.refs rfl HM.out s rfl (by omega) ?_; intro w7 M7 T7)
      obtain ⟨lab7, s7, d7, c7⟩ := S6.out.put_ref (n := nn) (by have := hnn.out; show nn ≤ v1.K + 1 + 1; omega) M7.out T7.out
      have S7 := hide s7; have D7 := hide d7; have C7 := hide c7
      clear s7 d7 c7 M7 T7 a5 HM
      go_wp2_with fail
      go_ret
      have B3 := BB1.out.ext E3.out
      have B4 := C4.out.blk B3 NB1.out
      have NB4 : ¬ lab4.dom bh := fun hd => by
        rcases D4.out _ hd with h9 | h9
        · exact NB1.out h9
        · have := B3.lt; omega
      have B5 := B4.ext E5.out
      have B6 := C6.out.blk B5 NB4
      have NB6 : ¬ lab6.dom bh := fun hd => by
        rcases D6.out _ hd with h9 | h9
        · exact NB4 h9
        · have := B5.lt; omega
      have B7 := C7.out.blk B6 NB6
      have NB7 : ¬ lab7.dom bh := fun hd => by
        rcases D7.out _ hd with h9 | h9
        · exact NB6 h9
        · have := B6.lt; omega
      have hlen := hLn.out
      have H4 := step_on (step_pre ⟨D1.out, C1.out⟩ E3.out) ⟨D4.out, C4.out⟩
      have H6 := step_on (step_pre H4 E5.out) ⟨D6.out, C6.out⟩
      have H7 := step_on H6 ⟨D7.out, C7.out⟩
      have hgive := (S1.out.part 2).ok.give HG1.out
      refine ⟨bh, rfl, { v1 with sl := v1.sl.set s (gn, none), fr := v1.fr ++ [s], lv := v1.lv - 1, refs := v1.refs.del s, E := E', P := P1 ++ P2, K := v1.K + 1 + 1 }, ⟨?_, rfl, ?_, ?_, fun i => ?_, fun i => GG1.out i⟩, hbh1.out, ?_, ⟨lab7, S7.out, H7.1, H7.2, NB7⟩, Dl, ?_, ?_, StGen.low (fun i => ?_) fun i => ?_⟩
      · exact ⟨K1.out.x, K1.out.width, K1.out.most, K1.out.gs, K1.out.marked, K1.out.uA, K1.out.uC, K1.out.un, K1.out.U⟩
      · show fsOf v1.most (v1.sl.set s (gn, none)) (v1.fr ++ [s]) = s :: fsOf v.most v.sl v.fr
        rw [hgive.2.1, K1.out.most, ES.out, EF.out]
      · have := HK1.out
        show v1.K + 1 + 1 ≤ v.K + 20
        omega
      · show genA (v1.sl.set s (gn, none)) i = genA v.sl i
        exact gen_give HG1.out ES.out i
      · have hx := B7
        rw [HVALS.out, hlen] at hx
        have hy := NumAt.ofBlk hx (by omega)
        rw [← hlen] at hy
        exact hy
      · exact RR1.out.unlink (P1 := P1) (P2 := P2) (by rw [EP.out]; exact HP.out) HG1.out P4.out _ _
      · exact LL1.out.congrQ fun j hj => if_pos (by rw [← K1.out.L]; unfold StV.L; omega)
      · show genA (v1.sl.set s (gn, none)) i < M
        rw [gen_give HG1.out ES.out i]
        exact HM1.out i
      · show genA v1.sL i < M
        rw [GG1.out i]; exact HM2.out i
end Go.Proofs.Ytahdiiaadjdmcaa

namespace Go.Proofs.Ytahdiiaadjdmcaa
open Go.RowKit

open Classical in
noncomputable def Lab.with_ (lab : Lab) (j : Nat) (B : Nat → Prop) : Lab := fun b => if B b then some j else lab b
theorem Lab.with_own {lab : Lab} {j : Nat} {B : Nat → Prop} {b : Nat} (hb : B b) : (lab.with_ j B).own j b := by unfold Lab.own Lab.with_; rw [if_pos hb]
theorem Lab.with_old {lab : Lab} {i j : Nat} {B : Nat → Prop} (hB : ∀ b, B b → ¬ lab.dom b) {b : Nat} (hb : lab.own i b) : (lab.with_ j B).own i b := by
  unfold Lab.own Lab.with_
  rw [if_neg fun h => hB b h ⟨i, hb⟩]; exact hb
theorem Lab.with_dom {lab : Lab} {j : Nat} {B : Nat → Prop} {b : Nat} (h : (lab.with_ j B).dom b) : B b ∨ lab.dom b := by
  obtain ⟨i, hi⟩ := h
  unfold Lab.with_ at hi
  split at hi
  · exact .inl (by assumption)
  · exact .inr ⟨i, hi⟩
/-- a store in the making: the parts K are there -/
structure LMp (w0 w : World) (x : Nat) (Bg : Nat → Prop) (lab : Lab) (v : StV) (K : Nat → Prop) : Prop where
  lt : ∀ b i, lab b = some i → b < w.heap.size
  part : ∀ i, K i → part w (lab.own i) v i
  dom : ∀ b, lab.dom b → Bg b ∨ w0.heap.size ≤ b
  nx : ¬ lab.dom x
  chg : Chg (fun b => b = x) w0 w
section
variable {w0 w w' : World} {x : Nat} {Bg : Nat → Prop} {lab : Lab} {v v' : StV} {K : Nat → Prop}
theorem LMp.go (h : LMp w0 w x Bg lab v K) {C : Nat → Prop} (hw : Chg C w w') (hC : ∀ g, C g → g = x ∨ (w0.heap.size ≤ g ∧ ¬ lab.dom g)) : LMp w0 w' x Bg lab v K :=
  ⟨fun b i hb => Nat.lt_of_lt_of_le (h.lt b i hb) hw.size, fun i hi => part_chg hw (fun g hg hg2 => (hC g hg2).elim (fun e => h.nx ⟨i, by rw [← e]; exact hg⟩) fun h9 => h9.2 ⟨i, hg⟩) i (h.part i hi), h.dom, h.nx, h.chg.trans hw fun g hg hl => (hC g hg).elim id fun h9 => absurd h9.1 (by omega)⟩
theorem LMp.ext (h : LMp w0 w x Bg lab v K) (hw : Ext w w') : LMp w0 w' x Bg lab v K := h.go (C := fun _ => False) (Chg.of hw) fun _ h => h.elim
theorem LMp.set (h : LMp w0 w x Bg lab v K) (j : Nat) (u : Value) : LMp w0 (w.setCell ⟨x, j, none⟩ u) x Bg lab v K :=
  h.go (C := fun b => b = x) (Chg.setCell (B := fun b => b = x) (Chg.refl _ w) (p := ⟨x, j, none⟩) (.inl rfl) u) fun _ h => .inl h
theorem LMp.add (h : LMp w0 w x Bg lab v K) (j : Nat) {B' : Nat → Prop} (hB : ∀ b, B' b → w0.heap.size ≤ b ∧ b < w.heap.size ∧ ¬ lab.dom b ∧ b ≠ x) (hp : Proofs.Ytahdiiaadjdmcaa.part w B' v' j) (hs : ∀ i, K i → i ≠ j → Proofs.Ytahdiiaadjdmcaa.part w (lab.own i) v i → Proofs.Ytahdiiaadjdmcaa.part w (lab.own i) v' i) :
    LMp w0 w x Bg (lab.with_ j B') v' (fun i => i = j ∨ K i) := by
  have hlt : ∀ b i, lab.with_ j B' b = some i → b < w.heap.size := fun b i hb => (Lab.with_dom ⟨i, hb⟩).elim (fun h1 => (hB b h1).2.1) fun ⟨k, hk⟩ => h.lt b k hk
  refine ⟨hlt, fun i hi => ?_, fun b hb => (Lab.with_dom hb).elim (fun h1 => .inr (hB b h1).1) (h.dom b), fun hx => (Lab.with_dom hx).elim (fun h1 => (hB x h1).2.2.2 rfl) h.nx, h.chg⟩
  by_cases hij : i = j
  · subst hij
    exact part_mono (fun b hb => Lab.with_own hb) (fun b hb => hlt b _ hb) i hp
  · exact part_mono (fun b hb => Lab.with_old (fun b hb => (hB b hb).2.2.1) hb) (fun b hb => hlt b _ hb) i (hs i (hi.resolve_left hij) hij (h.part i (hi.resolve_left hij)))
/-- a new part, whose pointer is stored into the store's cell k -/
theorem LMp.new {w1 w2 : World} (h : LMp w0 w1 x Bg lab v K) (hxl : x < w0.heap.size) (hw : Ext w1 w2) (k : Nat) (u : Value) (j : Nat) {B' : Nat → Prop} (hB : ∀ b, B' b → w1.heap.size ≤ b ∧ b < w2.heap.size) (hp : Chg (fun b => b = x) w2 (w2.setCell ⟨x, k, none⟩ u) → (∀ b, B' b → ¬ b = x) → Proofs.Ytahdiiaadjdmcaa.part (w2.setCell ⟨x, k, none⟩ u) B' v' j) (hs : ∀ i, K i → i ≠ j → Proofs.Ytahdiiaadjdmcaa.part (w2.setCell ⟨x, k, none⟩ u) (lab.own i) v i → Proofs.Ytahdiiaadjdmcaa.part (w2.setCell ⟨x, k, none⟩ u) (lab.own i) v' i) :
    LMp w0 (w2.setCell ⟨x, k, none⟩ u) x Bg (lab.with_ j B') v' (fun i => i = j ∨ K i) := by
  have hsz := h.chg.size
  refine ((h.ext hw).set k u).add j (fun b hb => ⟨by have := (hB b hb).1; omega, by have := (hB b hb).2; simpa using this, fun ⟨i, hi⟩ => ?_, fun e => ?_⟩) (hp (Chg.setCell (B := fun b => b = x) (Chg.refl _ w2) (p := ⟨x, k, none⟩) (.inl rfl) u) fun b hb e => ?_) hs
  · have h1 := h.lt b i hi; have h2 := (hB b hb).1; omega
  · have h2 := (hB b hb).1; omega
  · have h2 := (hB b hb).1; omega
theorem LMp.mono (h : LMp w0 w x Bg lab v K) {K' : Nat → Prop} (hK : ∀ i, K' i → K i) : LMp w0 w x Bg lab v K' := ⟨h.lt, fun i hi => h.part i (hK i hi), h.dom, h.nx, h.chg⟩
end
/-- a store's cells while it is laid -/
def layC (width most L : Nat) (GA : Option Addr) (n cG : Nat) (c4 c5 c6 c7 c8 c9 c10 : Value) : Array Value := #[.int .i64 width, .int .i64 most, .int .i64 L, .slice GA n cG, c4, c5, c6, c7, c8, c9, c10, .bool false, .slice none 0 0]
def stvL (x width most : Nat) (gs : List (List Nat)) (GA : Option Addr) (cG xs rm xw : Nat) (gA : Option Addr) (gC : Nat) (gx : List Nat) (xl lm xo : Nat) : StV :=
  { x := x, width := width, most := most, gs := gs, GA := GA, cG := cG, xs := xs, sl := [], fr := [], lv := 0, rm := rm, refs := fun _ => none, xw := xw, E := [], gA := gA, gC := gC, gx := gx, G := fun _ => [], xl := xl, sL := [], fL := [], lL := 0, lm := lm, lrefs := fun _ => none, xo := xo, cont := fun _ => [], marked := false, uA := none, uC := 0, un := [], P := [], U := [], K := 0 }
theorem part_stvL {w : World} {B : Nat → Prop} {x width most : Nat} {gs : List (List Nat)} {GA gA gA' : Option Addr} {cG xs rm xw gC xl lm xo xs' rm' xw' gC' xl' lm' xo' : Nat} {gx gx' : List Nat} :
    ∀ i, i ≠ 0 → (i = 2 → xs = xs') → (i = 3 → rm = rm') → (i = 4 → xw = xw') → (i = 5 → xl = xl') → (i = 6 → lm = lm') → (i = 7 → xo = xo') → (i = 9 → gx = gx') → (∀ k, i = k + 10 → gx[k]? = gx'[k]?) → part w B (stvL x width most gs GA cG xs rm xw gA gC gx xl lm xo) i → part w B (stvL x width most gs GA cG xs' rm' xw' gA' gC' gx' xl' lm' xo') i
  | 0, h, _, _, _, _, _, _, _, _, _ => absurd rfl h
  | 1, _, _, _, _, _, _, _, _, _, h => h
  | 2, _, e, _, _, _, _, _, _, _, h => by obtain rfl := e rfl; exact h
  | 3, _, _, e, _, _, _, _, _, _, h => by obtain rfl := e rfl; exact h
  | 4, _, _, _, e, _, _, _, _, _, h => by obtain rfl := e rfl; exact h
  | 5, _, _, _, _, e, _, _, _, _, h => by obtain rfl := e rfl; exact h
  | 6, _, _, _, _, _, e, _, _, _, h => by obtain rfl := e rfl; exact h
  | 7, _, _, _, _, _, _, e, _, _, h => by obtain rfl := e rfl; exact h
  | 8, _, _, _, _, _, _, _, _, _, h => h
  | 9, _, _, _, _, _, _, _, e, _, h => by obtain rfl := e rfl; exact h
  | k + 10, _, _, _, _, _, _, _, _, e, h => fun xk hk => h xk ((e k rfl).trans hk)
/-- the indexes of the groupings: k of them are made -/
def LayG (w0 w : World) (x : Nat) (Bg : Nat → Prop) (width most : Nat) (gs : List (List Nat)) (GA : Option Addr) (gl cG xs rm xw : Nat) (c8 c9 c10 : Value) (K : Nat → Prop) (k : Nat) : Prop :=
  ∃ lab gA gC gx, gx.length = k ∧ LMp w0 w x Bg lab (stvL x width most gs GA cG xs rm xw gA gC gx 0 0 0) K ∧ Blk w x 91 (layC width most (gl + 1) GA gl cG (.pointer (some ⟨xs, 0, none⟩)) (.map (some rm)) (.pointer (some ⟨xw, 0, none⟩)) (.slice gA k gC) c8 c9 c10) ∧
    OwnH w (fun b => w0.heap.size ≤ b ∧ b < w.heap.size ∧ ¬ lab.dom b ∧ b ≠ x) 85 1 k (.slice gA k gC) (ptrC gx)
theorem LayO.up {w0 w w1 wx : World} {x : Nat} {lab : Lab} {k : Nat} {v : Value} {xs : List Value} (O : OwnH wx (fun b => w0.heap.size ≤ b ∧ b < w.heap.size ∧ ¬ lab.dom b ∧ b ≠ x) 85 1 k v xs) (h : w.heap.size ≤ w1.heap.size) : OwnH wx (fun b => w0.heap.size ≤ b ∧ b < w1.heap.size ∧ ¬ lab.dom b ∧ b ≠ x) 85 1 k v xs :=
  O.mono fun _ hg => ⟨hg.1, Nat.lt_of_lt_of_le hg.2.1 h, hg.2.2.1, hg.2.2.2⟩
/-- the indexes' row when a new part is there -/
theorem LayO.new {w0 w w1 : World} {x : Nat} {lab : Lab} {k : Nat} {v : Value} {xs : List Value} {cs : Array Value} (O : OwnH w1 (fun b => w0.heap.size ≤ b ∧ b < w.heap.size ∧ ¬ lab.dom b ∧ b ≠ x) 85 1 k v xs) (X : Blk w1 x 91 cs) {j : Nat} {B' : Nat → Prop} (c : Nat) (u : Value) (hB : ∀ b, B' b → w.heap.size ≤ b) :
    OwnH (w1.setCell ⟨x, c, none⟩ u) (fun b => w0.heap.size ≤ b ∧ b < (w1.setCell ⟨x, c, none⟩ u).heap.size ∧ ¬ (lab.with_ j B').dom b ∧ b ≠ x) 85 1 k v xs := by
  have h := O.far X (by decide) c u
  refine ⟨h.own, fun g hg => ?_⟩
  have h1 := O.inB g hg
  exact ⟨h1.1, h.lt g hg, fun hd => (Lab.with_dom hd).elim (fun h2 => by have := hB g h2; have := h1.2.1; omega) h1.2.2.1, h1.2.2.2⟩
/-- one index more -/
theorem LayG.push {w0 wr w1 w8 : World} {x : Nat} {Bg : Nat → Prop} {width most : Nat} {gs : List (List Nat)} {GA : Option Addr} {gl cG xs rm xw : Nat} {c8 c9 c10 : Value} {lab : Lab} {gA : Option Addr} {gC k xk : Nat} {gx : List Nat} (hxl : x < w0.heap.size) (hgx : gx.length = k)
    (M : LMp w0 wr x Bg lab (stvL x width most gs GA cG xs rm xw gA gC gx 0 0 0) (fun i => i = 4 ∨ i = 3 ∨ i = 2 ∨ i = 1 ∨ i = 8 ∨ 10 ≤ i))
    (X : Blk wr x 91 (layC width most (gl + 1) GA gl cG (.pointer (some ⟨xs, 0, none⟩)) (.map (some rm)) (.pointer (some ⟨xw, 0, none⟩)) (.slice gA k gC) c8 c9 c10))
    (O : OwnH wr (fun b => w0.heap.size ≤ b ∧ b < wr.heap.size ∧ ¬ lab.dom b ∧ b ≠ x) 85 1 k (.slice gA k gC) (ptrC gx))
    (R : HIx w1 (fun b => wr.heap.size ≤ b ∧ b < w1.heap.size) xk most 0 []) (hE : Ext wr w1) {o : Obj} {A8 : Option Addr} {g8 : Nat}
    (own8 : OwnH w8 (fun b => (w0.heap.size ≤ b ∧ b < wr.heap.size ∧ ¬ lab.dom b ∧ b ≠ x) ∨ b = (w1.alloc o).heap.size) 85 1 (k + 1) (.slice A8 (k + 1) g8) (ptrC gx ++ [.pointer (some ⟨xk, 0, none⟩)])) (G8 : (w1.alloc o).grownBy w8 (Value.slice gA k gC).ownBlock) (C8 : Chg (fun b => w0.heap.size ≤ b ∧ b < wr.heap.size ∧ ¬ lab.dom b ∧ b ≠ x) (w1.alloc o) w8) :
    LayG w0 (w8.setCell ⟨x, 7, none⟩ (.slice A8 (k + 1) g8)) x Bg width most gs GA gl cG xs rm xw c8 c9 c10 (fun i => i = 4 ∨ i = 3 ∨ i = 2 ∨ i = 1 ∨ i = 8 ∨ 10 ≤ i) (k + 1) := by
  have hw0 := M.chg.size
  have he := hE.size
  have ho : (w1.alloc o).heap.size = w1.heap.size + 1 := World.size_alloc w1 o
  have h8 := C8.size
  have X1 := (X.ext hE).ext (Ext.alloc w1 o)
  have hb8 := X1.grown G8 (own_ne_blk (((O.ext hE).ext (Ext.alloc w1 o)).own) X1 (by decide))
  have M8 := (((M.ext hE).ext (Ext.alloc w1 o)).go C8 (fun g hg => .inr ⟨hg.1, hg.2.2.1⟩)).set 7 (.slice A8 (k + 1) g8)
  have c9' : Chg (fun b => b = x) w8 (w8.setCell ⟨x, 7, none⟩ (.slice A8 (k + 1) g8)) := Chg.setCell (B := fun b => b = x) (Chg.refl _ w8) (p := ⟨x, 7, none⟩) (.inl rfl) _
  have R9 := ((R.far (C := fun _ => False) (Chg.of (Ext.alloc w1 o)) (fun _ _ h => h)).far C8 (fun g hg hg2 => by have := hg.1; have := hg2.2.1; omega)).far c9' (fun g hg e => by have := hg.1; omega)
  have hdom : ∀ b, lab.dom b → b < wr.heap.size := fun b ⟨i, hi⟩ => M.lt b i hi
  have hM := M8.add (v' := stvL x width most gs GA cG xs rm xw A8 g8 (gx ++ [xk]) 0 0 0) (k + 10) (B' := fun b => wr.heap.size ≤ b ∧ b < w1.heap.size)
    (fun b hb => ⟨by have := hb.1; omega, by have := hb.2; simp; omega, fun hd => by have := hdom b hd; have := hb.1; omega, fun e => by have := hb.1; omega⟩)
    (fun xk' hk' => by
      have h1 : (gx ++ [xk])[k]? = some xk' := hk'
      rw [List.getElem?_append_right (by omega), hgx, Nat.sub_self] at h1
      obtain rfl : xk = xk' := by simpa using h1
      exact ⟨0, Nat.le_refl _, R9⟩)
    (fun i hi hne h => part_stvL i (by omega) (fun _ => rfl) (fun _ => rfl) (fun _ => rfl) (fun _ => rfl) (fun _ => rfl) (fun _ => rfl) (fun e => by omega) (fun k' e => by
      rcases Nat.lt_trichotomy k' k with h1 | h1 | h1
      · rw [List.getElem?_append_left (by omega)]
      · omega
      · rw [List.getElem?_eq_none (by omega), List.getElem?_eq_none (by simp; omega)]) h)
  refine ⟨_, A8, g8, gx ++ [xk], by simp [hgx], hM.mono fun i hi => .inr hi, hb8.set_ 7 _, ?_⟩
  have h9 := own8.far hb8 (by decide) 7 (.slice A8 (k + 1) g8)
  have e : ptrC (gx ++ [xk]) = ptrC gx ++ [.pointer (some ⟨xk, 0, none⟩)] := by simp [ptrC]
  rw [e]
  refine ⟨h9.own, fun g hg => ?_⟩
  have hlt := h9.lt g hg
  rcases own8.inB g hg with h1 | h1
  · exact ⟨h1.1, hlt, fun hd => (Lab.with_dom hd).elim (fun h2 => by have := h2.1; have := h1.2.1; omega) h1.2.2.1, h1.2.2.2⟩
  · exact ⟨by omega, hlt, fun hd => (Lab.with_dom hd).elim (fun h2 => by have := h2.2; omega) fun h2 => by have := hdom g h2; omega, by omega⟩
/-- an empty store -/
structure Fresh (v : StV) (x0 width0 most0 : Nat) (gs0 : List (List Nat)) : Prop where
  x : v.x = x0
  width : v.width = width0
  most : v.most = most0
  gs : v.gs = gs0
  sl : v.sl = []
  fr : v.fr = []
  lv : v.lv = 0
  refs : v.refs = fun _ => none
  E : v.E = []
  gx : v.gx.length = gs0.length
  G : v.G = fun _ => []
  sL : v.sL = []
  fL : v.fL = []
  lL : v.lL = 0
  lrefs : v.lrefs = fun _ => none
  cont : v.cont = fun _ => []
  marked : v.marked = false
  uA : v.uA = none
  uC : v.uC = 0
  un : v.un = []
  P : v.P = []
  U : v.U = []
  K : v.K = 0
/-- all parts are there -/
theorem LMp.done {w0 w : World} {x width most : Nat} {Bg : Nat → Prop} {lab : Lab} {gs : List (List Nat)} {GA gA : Option Addr} {cG xs rm xw gC xl lm xo k : Nat} {gx : List Nat} {K : Nat → Prop}
    (h : LMp w0 w x Bg lab (stvL x width most gs GA cG xs rm xw gA gC gx xl lm xo) (fun i => i = 7 ∨ i = 6 ∨ i = 5 ∨ K i)) (X : Blk w x 91 (layC width most (k + 1) GA k cG (.pointer (some ⟨xs, 0, none⟩)) (.map (some rm)) (.pointer (some ⟨xw, 0, none⟩)) (.slice gA k gC) (.pointer (some ⟨xl, 0, none⟩)) (.map (some lm)) (.pointer (some ⟨xo, 0, none⟩))))
    (O : OwnH w (fun b => w0.heap.size ≤ b ∧ b < w.heap.size ∧ ¬ lab.dom b ∧ b ≠ x) 85 1 k (.slice gA k gC) (ptrC gx)) (hgx : gx.length = k) (hgs : gs.length = k) (hK : ∀ i, i = 4 ∨ i = 3 ∨ i = 2 ∨ i = 1 ∨ i = 8 ∨ 10 ≤ i → K i) :
    ∃ lab v, StM w lab v ∧ Fresh v x width most gs ∧ (∀ b, lab.dom b → b = x ∨ Bg b ∨ w0.heap.size ≤ b) ∧ Chg (fun b => b = x) w0 w := by
  subst hgx
  have hlt : ∀ b i, lab.with_ 0 (fun b => b = x ∨ (Value.slice gA gx.length gC).ownBlock = some b) b = some i → b < w.heap.size := fun b i hb => (Lab.with_dom ⟨i, hb⟩).elim (fun h1 => h1.elim (fun e => by rw [e]; exact X.lt) fun e => O.lt b e) fun ⟨j, hj⟩ => h.lt b j hj
  have hnd : ∀ b, (b = x ∨ (Value.slice gA gx.length gC).ownBlock = some b) → ¬ lab.dom b := fun b hb => hb.elim (fun e => by rw [e]; exact h.nx) fun e => (O.inB b e).2.2.1
  refine ⟨lab.with_ 0 (fun b => b = x ∨ (Value.slice gA gx.length gC).ownBlock = some b), stvL x width most gs GA cG xs rm xw gA gC gx xl lm xo, ⟨hlt, fun i => ?_⟩, ⟨rfl, rfl, rfl, rfl, rfl, rfl, rfl, rfl, rfl, hgs.symm, rfl, rfl, rfl, rfl, rfl, rfl, rfl, rfl, rfl, rfl, rfl, rfl, rfl⟩, fun b hb => ?_, h.chg⟩
  · have hold : ∀ i, (i = 7 ∨ i = 6 ∨ i = 5 ∨ K i) → Proofs.Ytahdiiaadjdmcaa.part w ((lab.with_ 0 (fun b => b = x ∨ (Value.slice gA gx.length gC).ownBlock = some b)).own i) (stvL x width most gs GA cG xs rm xw gA gC gx xl lm xo) i := fun i hi =>
      part_mono (fun b hb => Lab.with_old hnd hb) (fun b hb => hlt b _ hb) i (h.part i hi)
    match i with
    | 0 =>
      refine ⟨?_, Lab.with_own (.inl rfl), ⟨O.own, fun g hg => Lab.with_own (.inr hg)⟩, OwnH.nil _ _ _ _⟩
      have e : (stvL x width most gs GA cG xs rm xw gA gC gx xl lm xo).cells = layC width most (gx.length + 1) GA gx.length cG (.pointer (some ⟨xs, 0, none⟩)) (.map (some rm)) (.pointer (some ⟨xw, 0, none⟩)) (.slice gA gx.length gC) (.pointer (some ⟨xl, 0, none⟩)) (.map (some lm)) (.pointer (some ⟨xo, 0, none⟩)) := by
        simp only [StV.cells, stvL, layC, StV.L, hgs, List.length_nil]
      rw [e]; exact X
    | 1 => exact hold 1 (.inr (.inr (.inr (hK 1 (by omega)))))
    | 2 => exact hold 2 (.inr (.inr (.inr (hK 2 (by omega)))))
    | 3 => exact hold 3 (.inr (.inr (.inr (hK 3 (by omega)))))
    | 4 => exact hold 4 (.inr (.inr (.inr (hK 4 (by omega)))))
    | 5 => exact hold 5 (by omega)
    | 6 => exact hold 6 (by omega)
    | 7 => exact hold 7 (by omega)
    | 8 => exact hold 8 (.inr (.inr (.inr (hK 8 (by omega)))))
    | 9 => exact hgs.symm
    | m + 10 => exact hold (m + 10) (.inr (.inr (.inr (hK (m + 10) (by omega)))))
  · rcases Lab.with_dom hb with (h1 | h1) | h1
    · exact .inl h1
    · exact .inr (.inr (O.inB b h1).1)
    · exact .inr (h.dom b h1)
theorem Fresh.at_ {v : StV} {x width most : Nat} {gs : List (List Nat)} (h : Fresh v x width most gs) (hw : width ≤ 30) (hm : 1 ≤ most ∧ most ≤ 65536) (hg : gs.length ≤ 4) (hgs : ∀ g ∈ gs, g.length ≤ 30 ∧ ∀ c ∈ g, c < width) : StAt v (fun _ => []) 1 := by
  refine ⟨⟨by rw [h.width]; exact hw, by rw [h.most]; exact hm, by rw [h.gs]; exact hg, by rw [h.gs, h.width]; exact hgs, ?_, ?_, ?_, fun i => ?_, by rw [h.lv, h.P]; rfl, ?_, by rw [h.E, h.P]; exact .nil, by rw [h.gx, h.gs]⟩, ⟨?_, fun k g hg => ?_, ?_, ?_, ?_, ?_⟩, ⟨fun i => ?_, fun i => ?_⟩⟩
  · rw [h.P]; intro p hp; cases hp
  · rw [h.P]; exact List.nodup_nil
  · rw [h.P]; exact List.nodup_nil
  · rw [h.sl, h.P]; simp [thg]
  · rw [h.P]; intro p hp; cases hp
  · rw [h.cont, h.P]; rfl
  · rw [h.G, h.P, h.cont]
    exact ⟨.nil, List.nodup_nil, fun key => ⟨fun h1 => (by cases h1), fun ⟨p, hp, _⟩ => (by cases hp)⟩, fun d hd => (by cases hd)⟩
  · intro k j d e _ _ hd; cases hd
  · intro k d _ hd; cases hd
  · intro n _ _; rw [h.cont]
  · rw [h.lL]
    have : ∀ n : Nat, ((List.range n).map fun _ => ([] : List (List V × Nat)).length).sum = 0 := fun n => by
      induction n with
      | zero => rfl
      | succ n ih => rw [List.range_succ, List.map_append, List.sum_append, ih]; rfl
    exact (this _).symm
  · rw [h.sl]; simp [thg, genA]
  · rw [h.sL]; simp [thg, genA]
end Go.Proofs.Ytahdiiaadjdmcaa
