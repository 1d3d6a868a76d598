/-
  store: unlink, its plain part: what is known of a store while a row is taken out of its lists.
-/
import Derived.Test.YtifloafhpeeepaaGreatStoE
namespace Go.Proofs.YtifloafhpeeepaaGreat
open Go.RowKit

/-- lane k still shows the row: its list -/
theorem lane_here {L : Nat} {gs : List (List Nat)} {G : Nat → Ents} {cont : Nat → List Nat} {sL : List (Slt Value)} {lL : Nat} {lrefs : IMap} {D : Nat → List (List V × Nat)} {Q : Nat → List SRow} (h : StLan L gs G cont sL lL lrefs D Q) {k : Nat} {g : List Nat} (hg : gs[k]? = some g) {P1 P2 : List SRow} {s : Nat} {r : List V} (hQ : Q (k + 1) = P1 ++ (s, r) :: P2) :
    ∃ n, (keyR g r, n) ∈ D k ∧ cont n = grpC L k g P1 (keyR g r) ++ (s * L + (k + 1)) :: grpC L k g P2 (keyR g r) := by
  have hl := h.lane k g hg
  have h1 := (hl.mem (keyR g r)).2 ⟨(s, r), by rw [hQ]; simp, rfl⟩
  rw [List.mem_map] at h1
  obtain ⟨⟨key, n⟩, hd, e⟩ := h1
  dsimp only at e
  subst e
  refine ⟨n, hd, ?_⟩
  have h2 := hl.cont _ hd
  rw [hQ] at h2
  dsimp only at h2
  rw [h2, grpC_append, grpC_cons_eq]
/-- what shut leaves in lane k -/
structure ShutTo (v v' : StV) (Q' : Nat → List SRow) : Prop where
  kept : Kept v v'
  row : StRow v'
  P : v'.P = v.P
  sl : v'.sl = v.sl
  fr : v'.fr = v.fr
  refs : v'.refs = v.refs
  E : v'.E = v.E
  lv : v'.lv = v.lv
  K : v'.K ≤ v.K + 3
  fin : ∃ D', StLan v'.L v'.gs v'.G v'.cont v'.sL v'.lL v'.lrefs D' Q'
  gen : ∀ i, genA v'.sL i = genA v.sL i
open Classical in
set_option maxRecDepth 100000 in
/-- the list of lane k's key is given back, if it is empty -/
theorem shut_lane {w : World} {lab : Lab} {v : StV} {D : Nat → List (List V × Nat)} {Q : Nat → List SRow} (hr : StRow v) (hlan : StLan v.L v.gs v.G v.cont v.sL v.lL v.lrefs D Q) (hgen : ∀ i, genA v.sL i < 1073741824) (hK : v.K ≤ 4611686018427387000)
    {k : Nat} {g : List Nat} (hg : v.gs[k]? = some g) {P1 P2 : List SRow} {s n0 : Nat} {r : List V} (hQ : Q (k + 1) = P1 ++ (s, r) :: P2) (hQr : ∀ p ∈ P1 ++ (s, r) :: P2, fitsR v.width p.2 = true ∧ smallR p.2 ∧ wfR p.2)
    (hd : (keyR g r, n0) ∈ D k) (h : StM w lab { v with cont := upd v.cont n0 (grpC v.L k g P1 (keyR g r) ++ grpC v.L k g P2 (keyR g r)) })
    {A : Option Addr} {n : Nat} (c : Nat) (ha : ArgR w A n (keyR g r)) (hA : ∀ a, A = some a → ¬ lab.dom a.block) :
    Calls Tryz.prog 85 #[.pointer (some ⟨v.x, 0, none⟩), .int .i64 k, .slice A n c] w fun e w' => ∃ v' : StV, e = .returned (.tuple #[]) ∧ StR w lab w' v' ∧ ShutTo v v' (upd Q (k + 1) (P1 ++ P2)) := by
  have hk := gs_lt hg
  obtain ⟨hfit, hsm, hwf⟩ := hQr (s, r) (by simp)
  have hkg := gs_good hr hg hfit hsm hwf
  have hlane := hlan.lane k g hg
  rw [hQ] at hlane
  have hkeys := hr.keys hg hlane hQr
  have hgx : ∃ xk, v.gx[k]? = some xk := ⟨_, List.getElem?_eq_getElem (by rw [hr.gx]; exact hk)⟩
  obtain ⟨xk, hxk⟩ := hgx
  have hgl := (hr.gs g (List.mem_of_getElem? hg)).1
  have hq : (pk (keyR g r), (n0 : Int)) ∈ v.G k := (hlane.entry hkeys hkg).2 ⟨n0, hd, rfl⟩
  have hli := hlan.lists k _ hk hd
  have hi : n0 - 1 < v.most * v.L := by
    have h2 := thg_lt hli.2.1
    have h3 := (h.part 5).ok.len
    exact Nat.lt_of_lt_of_le h2 h3
  have h1n : 1 ≤ n0 := hli.1
  have hKO : KeyOk { v with cont := upd v.cont n0 (grpC v.L k g P1 (keyR g r) ++ grpC v.L k g P2 (keyR g r)) } k xk g (keyR g r) := ⟨hg, by omega, hxk, hkg.len, hkg.ok, pk_le _, hlane.one hkeys hkg⟩
  have hinj : ∀ d ∈ D k, ∀ e ∈ D k, d.2 = e.2 → d = e := fun d hd2 e he he2 => (hlan.nums k k d e hk hk hd2 he he2).2
  by_cases hst : ∃ p ∈ P1 ++ P2, keyR g p.2 = keyR g r
  · have hne : upd v.cont n0 (grpC v.L k g P1 (keyR g r) ++ grpC v.L k g P2 (keyR g r)) n0 ≠ [] := by
      rw [upd_same, ← grpC_append]
      intro e
      obtain ⟨p, hp, hpk⟩ := hst
      exact (grpC_nil_iff _ _ _ _ _).1 e p hp hpk
    refine (shut_kept h (by show v.K ≤ _; exact hK) hKO c ha (q := n0) hq (by show n0 < v.most * v.L + 1; omega) hne).mono ?_
    rintro e w' ⟨rfl, h1⟩
    refine ⟨_, rfl, h1, ⟨⟨rfl, rfl, rfl, rfl, rfl, rfl, rfl, rfl, rfl⟩, ⟨hr.width, hr.most, hr.gsl, hr.gs, hr.rows, hr.slots, hr.vals, hr.alive, hr.lv, hr.refs, hr.ents, hr.gx⟩, rfl, rfl, rfl, rfl, rfl, rfl, by show v.K + 1 ≤ v.K + 3; omega, ⟨D, ?_⟩, fun _ => rfl⟩⟩
    refine hlan.step hk hd fun g' hg' => ?_
    obtain rfl : g = g' := Option.some.inj (hg.symm.trans hg')
    exact hlane.shrink hd hinj hst
  · have hno : ∀ p ∈ P1 ++ P2, keyR g p.2 ≠ keyR g r := fun p hp e => hst ⟨p, hp, e⟩
    have e1 : grpC v.L k g P1 (keyR g r) = [] := (grpC_nil_iff v.L k g P1 _).2 fun p hp => hno p (List.mem_append_left _ hp)
    have e2 : grpC v.L k g P2 (keyR g r) = [] := (grpC_nil_iff v.L k g P2 _).2 fun p hp => hno p (List.mem_append_right _ hp)
    obtain ⟨i, rfl⟩ : ∃ i, n0 = i + 1 := ⟨n0 - 1, by omega⟩
    rw [Nat.add_sub_cancel] at hi
    have hli2 := hli.2.1
    dsimp only at hli2
    rw [Nat.add_sub_cancel] at hli2
    obtain ⟨u, hu⟩ := Option.isSome_iff_exists.1 hli2
    obtain ⟨gn, hgn⟩ := thg_some hu
    have hgn2 : genA v.sL i = gn := genA_at hgn
    have href := hli.2.2
    dsimp only at href
    rw [Nat.add_sub_cancel, hgn2] at href
    have hm1 := hr.most
    have hg4 := hr.gsl
    have hLg : v.L = v.gs.length + 1 := rfl
    have hmL : v.most * v.L ≤ 1048576 := Nat.le_trans (Nat.mul_le_mul hm1.2 (show v.L ≤ 5 by omega)) (by omega)
    refine (shut_gone h (by show v.K ≤ _; exact hK) hKO c ha hA (i := i) (gn := gn) (u := u) (by rw [Int.natCast_add] at hq; exact hq) hi hmL (by show upd v.cont (i + 1) _ (i + 1) = []; rw [upd_same, e1, e2]; rfl) hgn (by have := hgen i; omega) href).mono ?_
    rintro e w' ⟨rfl, E', hE', h1⟩
    refine ⟨_, rfl, h1, ⟨⟨rfl, rfl, rfl, rfl, rfl, rfl, rfl, rfl, rfl⟩, ⟨hr.width, hr.most, hr.gsl, hr.gs, hr.rows, hr.slots, hr.vals, hr.alive, hr.lv, hr.refs, hr.ents, hr.gx⟩, rfl, rfl, rfl, rfl, rfl, rfl, by show v.K + 3 ≤ v.K + 3; omega, ⟨upd D k ((D k).erase (keyR g r, i + 1)), ?_⟩, fun j => ?_⟩⟩
    · rw [e1, e2]
      refine hlan.stepGone (key := keyR g r) hk hd hgn fun g' hg' => ?_
      obtain rfl : g = g' := Option.some.inj (hg.symm.trans hg')
      exact hlane.gone hd hinj hno (by rw [Int.natCast_add]; exact hE') []
    · show genA (v.sL.set i (gn, none)) j = genA v.sL j
      rw [genA_set (List.getElem?_eq_some_iff.1 hgn).1]
      by_cases hj : j = i
      · rw [if_pos hj, hj, hgn2]
      · rw [if_neg hj]
/-- the rows behind a row's going -/
theorem StRow.unlink {v : StV} (h : StRow v) {s gn : Nat} {r : List V} {P1 P2 : List SRow} {u : Value} (hP : v.P = P1 ++ (s, r) :: P2) (hs : v.sl[s]? = some (gn, some u)) {E' : Ents} (hE : List.Perm v.E ((pk r, (s : Int)) :: E')) (fr : List Nat) (K : Nat) :
    StRow { v with sl := v.sl.set s (gn, none), fr := fr, lv := v.lv - 1, P := P1 ++ P2, refs := v.refs.del s, E := E', K := K } := by
  have hil := (List.getElem?_eq_some_iff.1 hs).1
  have hperm : List.Perm v.P ((s, r) :: (P1 ++ P2)) := by rw [hP]; exact List.perm_middle
  have hsub : ∀ p, p ∈ P1 ++ P2 → p ∈ v.P := fun p hp => hperm.mem_iff.2 (List.mem_cons_of_mem _ hp)
  have hnd1 := (hperm.map (·.1)).nodup_iff.1 h.slots
  have hnd2 := (hperm.map (·.2)).nodup_iff.1 h.vals
  simp only [List.map_cons, List.nodup_cons] at hnd1 hnd2
  refine ⟨h.width, h.most, h.gsl, h.gs, fun p hp => h.rows p (hsub p hp), hnd1.2, hnd2.2, fun i => ?_, ?_, fun p hp => ?_, ?_, h.gx⟩
  · show (thg (v.sl.set s (gn, none)) i).isSome = true ↔ i ∈ (P1 ++ P2).map (·.1)
    rw [thg_set hil]
    by_cases hi : i = s
    · subst hi
      rw [if_pos rfl]
      exact ⟨fun h1 => (by cases h1), fun h1 => absurd h1 hnd1.1⟩
    · rw [if_neg hi, h.alive i, (hperm.map (·.1)).mem_iff]
      simp only [List.map_cons, List.mem_cons]
      exact ⟨fun h1 => h1.resolve_left hi, .inr⟩
  · show v.lv - 1 = (P1 ++ P2).length
    have h1 := hperm.length_eq
    have h2 := h.lv
    simp only [List.length_cons] at h1
    omega
  · show (v.refs.del s) p.1 = some (.agg #[.int .i64 p.1, .int .i64 (genA (v.sl.set s (gn, none)) p.1 : Int)])
    have hne : p.1 ≠ s := fun e => hnd1.1 (by rw [← e]; exact List.mem_map.2 ⟨p, hp, rfl⟩)
    rw [genA_set hil, if_neg hne, IMap.del, if_neg hne]
    exact h.refs p (hsub p hp)
  · show List.Perm E' ((P1 ++ P2).map fun p => (pk p.2, (p.1 : Int)))
    have h1 := hE.symm.trans (h.ents.trans (hperm.map fun p : SRow => (pk p.2, (p.1 : Int))))
    simp only [List.map_cons] at h1
    exact (List.perm_cons _).1 h1
theorem StRow.ent {v : StV} (h : StRow v) {s : Nat} {r : List V} (hp : (s, r) ∈ v.P) : (pk r, (s : Int)) ∈ v.E ∧ ∀ a b, (pk r, a) ∈ v.E → (pk r, b) ∈ v.E → a = b := by
  have hin : (pk r, (s : Int)) ∈ v.E := h.ents.mem_iff.2 (List.mem_map.2 ⟨(s, r), hp, rfl⟩)
  have hval : ∀ p ∈ v.P, validR p.2 = true ∧ wfR p.2 := fun p hp => by
    have h1 := h.rows p hp
    have h2 := h1.1
    unfold fitsR at h2
    rw [Bool.and_eq_true] at h2
    exact ⟨h2.2, h1.2.2⟩
  have hone : ∀ a, (pk r, a) ∈ v.E → a = (s : Int) := fun a ha => by
    obtain ⟨p, hp2, e⟩ := List.mem_map.1 (h.ents.mem_iff.1 ha)
    injection e with e1 e2
    have h1 := hval p hp2
    have h2 := hval _ hp
    have h3 := pk_inj h1.1 h1.2 h2.1 h2.2 e1
    have h4 : p = (s, r) := val_inj h.vals hp2 hp h3
    rw [← e2, h4]
  exact ⟨hin, fun a b ha hb => (hone a ha).trans (hone b hb).symm⟩
where
  val_inj {P : List SRow} (h : (P.map (·.2)).Nodup) {p q : SRow} (hp : p ∈ P) (hq : q ∈ P) (e : p.2 = q.2) : p = q := by
    obtain ⟨i, hi⟩ := List.mem_iff_getElem?.1 hp
    obtain ⟨j, hj⟩ := List.mem_iff_getElem?.1 hq
    have h4 : (P.map (·.2))[i]? = (P.map (·.2))[j]? := by rw [List.getElem?_map, List.getElem?_map, hi, hj]; simp [e]
    have h5 : i < (P.map (·.2)).length := by rw [List.length_map]; exact (List.getElem?_eq_some_iff.1 hi).1
    have h6 := (List.getElem?_inj h5 h).1 h4
    subst h6
    exact Option.some.inj (hi.symm.trans hj)
end Go.Proofs.YtifloafhpeeepaaGreat
