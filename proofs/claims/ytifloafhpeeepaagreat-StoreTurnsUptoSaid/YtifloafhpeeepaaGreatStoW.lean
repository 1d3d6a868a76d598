/-
  store: Rows, Group, Size, First, Next.
-/
import Derived.Test.YtifloafhpeeepaaGreatStoV
namespace Go.Proofs.YtifloafhpeeepaaGreat
open Go.RowKit

theorem MineV.base {b b' : Nat} {w : World} {A : Option Addr} {n c : Nat} {rows : List (List V)} (h : MineV b w A n c rows) (hb : b' ≤ b) : MineV b' w A n c rows := by
  obtain ⟨cells, h1, h2, h3⟩ := h
  exact ⟨cells, h1, mine_base h2 hb, h3.mono fun cs r ⟨A, n, c, e, ho⟩ => ⟨A, n, c, e, mine_base ho hb⟩⟩
theorem step_of {w w' : World} {lab : Lab} {v' : StV} (h : StR w lab w' v') : ∃ lab', StM w' lab' v' ∧ Step w lab w' lab' := by
  obtain ⟨lab', h1, h2, h3⟩ := h
  exact ⟨lab', h1, h2, h3⟩
theorem stR_of {w w' : World} {lab lab' : Lab} {v' : StV} (h1 : StM w' lab' v') (h2 : Step w lab w' lab') : StR w lab w' v' := ⟨lab', h1, h2.1, h2.2⟩
theorem size_of {w w' : World} {lab lab' : Lab} (h : Step w lab w' lab') : w.heap.size ≤ w'.heap.size := h.2.size
/-- the rows with this key -/
def grpS (S : SAbs) (k : Nat) (key : List V) : List (List V) := match S.gs[k]? with
  | none => []
  | some g => S.rows.filter fun r => sameR (keyR g r) key
/-- what a call leaves that tells things in blocks from M on -/
def StSM (w : World) (B : Nat → Prop) (x : Nat) (S : SAbs) (N : Nat) (w' : World) (M : Nat) : Prop :=
  ∃ B', StI w' B' x S N ∧ (∀ b, B' b → B b ∨ w.heap.size ≤ b) ∧ (∀ b, B' b → b < M) ∧ Chg B w w' ∧ w.heap.size ≤ M ∧ M ≤ w'.heap.size
theorem StSM.sts {w w' : World} {B : Nat → Prop} {x : Nat} {S : SAbs} {N M : Nat} (h : StSM w B x S N w' M) : StS w B x S N w' := by
  obtain ⟨B', h1, h2, h3, h4, h5, h6⟩ := h
  exact ⟨B', h1, h2, fun b hb => Nat.lt_of_lt_of_le (h3 b hb) h6, h4⟩
theorem StSM.of {w w' : World} {B : Nat → Prop} {x : Nat} {S : SAbs} {N M : Nat} {lab : Lab} {v' : StV} {D : Nat → List (List V × Nat)} {P0 : List SRow} {F0 : List Nat} (hB : ∀ b, lab.dom b → B b) (h : StRM w lab w' v' M) (he : SEq S x v' P0) (ho : StOk v' D N P0 F0) : StSM w B x S N w' M := by
  obtain ⟨lab', h1, h2, h3, h4, h5, h6⟩ := h
  exact ⟨lab'.dom, ⟨lab', v', D, P0, F0, h1, fun b hb => hb, he, ho⟩, fun b hb => (h2 b hb).imp (hB b) id, h4, h3.mono fun g hg _ => hB g hg, h5, h6⟩
theorem StRM.tick0 {w w' : World} {lab : Lab} {v : StV} {M : Nat} (h : StRM w lab w' v M) : StRM w lab w' (v.tick 0) M := by
  obtain ⟨lab', h1, h2⟩ := h
  exact ⟨lab', h1.tick 0, h2⟩
/-- none are told -/
theorem StRM.none {w w' : World} {lab : Lab} {v : StV} (h : StR w lab w' v) : StRM w lab w' v w'.heap.size := by
  obtain ⟨lab', h1, h2, h3⟩ := h
  exact ⟨lab', h1, h2, h3, fun b ⟨i, hi⟩ => h1.lt b i hi, h3.size, Nat.le_refl _⟩
theorem StRM.pre {w w1 w' : World} {lab lab1 : Lab} {v' : StV} {M : Nat} (hs : Step w lab w1 lab1) (h : StRM w1 lab1 w' v' M) : StRM w lab w' v' M := by
  obtain ⟨lab', h1, h2, h3, h4, h5, h6⟩ := h
  have hst := step_on hs ⟨h2, h3⟩
  exact ⟨lab', h1, hst.1, hst.2, h4, Nat.le_trans hs.2.size h5, h6⟩
set_option maxRecDepth 100000 in
theorem rows_st {w : World} {B : Nat → Prop} {x : Nat} {S : SAbs} {N : Nat} (h : StI w B x S N) :
    Calls Tryz.prog 12 #[.pointer (some ⟨x, 0, none⟩)] w fun e w' => ∃ A c M, e = .returned (.slice A S.rows.length c) ∧ MineV M w' A S.rows.length c S.rows ∧ StSM w B x S (N + 1) w' M := by
  obtain ⟨lab, v, D, P0, F0, h1, h2, h3, h4⟩ := h
  have HRw := hide (show Calls Tryz.prog 45 #[.pointer (some ⟨v.x, 0, none⟩), .int .i64 0] w (fun e w' => ∃ A c, e = .returned (.slice A v.P.length c) ∧ ∃ M, MineV M w' A v.P.length c (v.P.map fun p : SRow => p.2) ∧ StRM w lab w' v M) from rows_of h1 h4.row (n := 0) (l := 0) (by omega) (Q := v.P) (by rw [h4.lan.c0]; rfl) (fun p hp => hp) (by unfold StV.L; omega))
  rw [h3.x] at HRw
  have e1 : v.P.length = S.rows.length := by rw [h3.rows, List.length_map]
  have e2 : (v.P.map fun p : SRow => p.2) = S.rows := h3.rows.symm
  rw [e1, e2] at HRw
  have H2 := hide h2; have H3 := hide h3; have H4 := hide h4
  clear h1 h2 h3 h4 e1 e2
  go_enter Tryz.func12, Tryz.ntmps12
  go_wp2_with ((with_reducible refine HRw.out.mono ?_); rintro e w2 ⟨A, c, rfl, M, h5, h6⟩; have M2 := hide h5; have S2 := hide h6; clear h5 h6)
  go_ret
  exact ⟨A, c, M, rfl, M2.out, StSM.of H2.out S2.out.tick0 (H3.out.tick 0) (H4.out.tick 0 1 (by omega) (Nat.le_refl _))⟩
set_option maxRecDepth 100000 in
theorem no_group_in {w : World} {lab : Lab} {v : StV} (h : StM w lab v) {k : Nat} (hk : k < v.gs.length) :
    Calls Tryz.prog 46 #[.pointer (some ⟨v.x, 0, none⟩), .int .i64 k] w fun e w' => e = .returned (.bool false) ∧ w' = w := by
  have a3 : w.cell? ⟨v.x, 3, none⟩ = some (.slice v.GA v.gs.length v.cG) := h.str.cell 3
  have h1 : ¬ (k : Int) < 0 := by omega
  have h2 : (k : Int) < (v.gs.length : Int) := by omega
  clear h
  generalize v.gs.length = m at *
  go_enter Tryz.func46, Tryz.ntmps46
  go_wp2_with fail
  go_ret
  exact ⟨by simp; omega, rfl⟩
set_option maxRecDepth 100000 in
theorem no_group_out {w : World} {lab : Lab} {v : StV} (h : StM w lab v) {k : Int} (hk : k < 0 ∨ (v.gs.length : Int) ≤ k) :
    Calls Tryz.prog 46 #[.pointer (some ⟨v.x, 0, none⟩), .int .i64 k] w fun e w' => e = .returned (.bool true) ∧ w' = w := by
  have a3 : w.cell? ⟨v.x, 3, none⟩ = some (.slice v.GA v.gs.length v.cG) := h.str.cell 3
  clear h
  generalize v.gs.length = m at *
  by_cases h1 : k < 0
  · clear hk
    go_enter Tryz.func46, Tryz.ntmps46
    go_wp2_with fail
    go_ret
    exact ⟨rfl, rfl⟩
  · have h2 : (m : Int) ≤ k := by omega
    clear hk
    go_enter Tryz.func46, Tryz.ntmps46
    go_wp2_with fail
    go_ret
    exact ⟨rfl, rfl⟩
/-- what a key's list is, in a store -/
def ListSays (_v : StV) (D : Nat → List (List V × Nat)) (k : Nat) (key : List V) : Option Nat → Prop
  | none => key ∉ (D k).map (·.1)
  | some n => (key, n) ∈ D k
theorem list_st {w : World} {lab : Lab} {v : StV} {D : Nat → List (List V × Nat)} {N : Nat} {P0 : List SRow} {F0 : List Nat} (h : StM w lab v) (ho : StOk v D N P0 F0) (hN : N ≤ 8388608) {k : Nat} {g : List Nat} (hg : v.gs[k]? = some g) {r : List V} {A : Option Addr} {n : Nat} (c : Nat) (ha : ArgR w A n r) :
    Calls Tryz.prog 47 #[.pointer (some ⟨v.x, 0, none⟩), .int .i64 k, .slice A n c] w fun e w' => ∃ o : Option Nat, ListSays v D k r o ∧ e = .returned (.int .i64 (oi o)) ∧ StR w lab w' (v.tick 1) := by
  have hK := ho.K
  have hkb := kBound_le hN
  have hk := gs_lt hg
  have hlane := ho.lan.lane k g hg
  have hkeys := ho.row.keys hg hlane ho.row.rows
  have hgl := (ho.row.gs g (List.mem_of_getElem? hg)).1
  obtain ⟨xk, hxk⟩ : ∃ xk, v.gx[k]? = some xk := ⟨_, List.getElem?_eq_getElem (by rw [ho.row.gx]; exact hk)⟩
  refine (slist_any h (by omega) hg (by omega) hxk c ha (by have := pk_le r; omega)).mono ?_
  rintro e w' ⟨o, h1, rfl, h3⟩
  unfold ListAt at h1
  by_cases hgood : r.length = g.length ∧ validR r = true
  · rw [if_pos hgood] at h1
    have hkg : KeyGood g r := ⟨hgood.1, hgood.2, ha.small, ha.wf⟩
    cases o with
    | none =>
      refine ⟨none, fun hm => ?_, rfl, h3⟩
      obtain ⟨⟨key, q⟩, hd, e⟩ := List.mem_map.1 hm
      dsimp only at e
      subst e
      exact h1.2 rfl q ((hlane.entry hkeys hkg).2 ⟨q, hd, rfl⟩)
    | some z =>
      obtain ⟨q, hq, rfl⟩ := (hlane.entry hkeys hkg).1 (h1.1 z rfl)
      exact ⟨some q, hq, rfl, h3⟩
  · rw [if_neg hgood] at h1
    subst h1
    refine ⟨none, fun hm => ?_, rfl, h3⟩
    obtain ⟨d, hd, e⟩ := List.mem_map.1 hm
    have := hkeys d hd
    rw [e] at this
    exact hgood ⟨this.len, this.ok⟩
theorem grpS_eq {S : SAbs} {x : Nat} {v : StV} {P0 : List SRow} (h : SEq S x v P0) {k : Nat} {g : List Nat} (hg : v.gs[k]? = some g) (key : List V) : grpS S k key = (v.P.filter fun p => sameR (keyR g p.2) key).map (·.2) := by
  unfold grpS
  rw [h.gs, hg, h.rows]
  simp only
  rw [List.filter_map]
  rfl
open Classical in
theorem grpC_eq (L k : Nat) (g : List Nat) (P : List SRow) (key : List V) : grpC L k g P key = (P.filter fun p => sameR (keyR g p.2) key).map fun p => p.1 * L + (k + 1) := by
  unfold grpC
  congr 1
  refine List.filter_congr fun p _ => ?_
  rw [Bool.eq_iff_iff, decide_eq_true_eq, sameR_iff]
theorem grp_nil {v : StV} {D : Nat → List (List V × Nat)} {N : Nat} {P0 : List SRow} {F0 : List Nat} (ho : StOk v D N P0 F0) {k : Nat} {g : List Nat} (hg : v.gs[k]? = some g) {key : List V} (h : key ∉ (D k).map (·.1)) : (v.P.filter fun p => sameR (keyR g p.2) key) = [] := by
  refine List.filter_eq_nil_iff.2 fun p hp he => h ?_
  exact ((ho.lan.lane k g hg).mem key).2 ⟨p, hp, sameR_iff.1 he⟩
theorem num_lt {w : World} {lab : Lab} {v : StV} {D : Nat → List (List V × Nat)} {N : Nat} {P0 : List SRow} {F0 : List Nat} (h : StM w lab v) (ho : StOk v D N P0 F0) {k n : Nat} {key : List V} (hk : k < v.gs.length) (hd : (key, n) ∈ D k) : n < v.most * v.L + 1 := by
  have hli := ho.lan.lists k _ hk hd
  have h2 := thg_lt hli.2.1
  have h3 := (h.part 5).ok.len
  dsimp only at h2
  omega
set_option maxRecDepth 100000 in
theorem group_bad {w : World} {B : Nat → Prop} {x : Nat} {S : SAbs} {N : Nat} (h : StI w B x S N) {k : Int} (hk : k < 0 ∨ (S.gs.length : Int) ≤ k) (A : Option Addr) (n c : Nat) :
    Calls Tryz.prog 13 #[.pointer (some ⟨x, 0, none⟩), .int .i64 k, .slice A n c] w fun e w' => e = .returned (.tuple #[.slice none 0 0, .int .i64 63]) ∧ w' = w := by
  obtain ⟨lab, v, D, P0, F0, h1, h2, h3, h4⟩ := h
  have HN := hide (no_group_out h1 (k := k) (by rw [← h3.gs]; exact hk))
  rw [h3.x] at HN
  clear h1 h2 h3 h4 hk
  go_enter Tryz.func13, Tryz.ntmps13
  go_wp2_with ((with_reducible refine HN.out.mono ?_); rintro e w2 ⟨rfl, rfl⟩)
  go_ret2
  exact ⟨rfl, rfl⟩
set_option maxRecDepth 100000 in
theorem group_st {w : World} {B : Nat → Prop} {x : Nat} {S : SAbs} {N : Nat} (h : StI w B x S N) (hN : N ≤ 8388608) {k : Nat} (hk : k < S.gs.length) {r : List V} {A : Option Addr} {n : Nat} (c : Nat) (ha : ArgR w A n r) :
    Calls Tryz.prog 13 #[.pointer (some ⟨x, 0, none⟩), .int .i64 k, .slice A n c] w fun e w' => ∃ A' c', e = .returned (.tuple #[.slice A' (grpS S k r).length c', .int .i64 0]) ∧ ∃ M, MineV M w' A' (grpS S k r).length c' (grpS S k r) ∧ StSM w B x S (N + 1) w' M := by
  obtain ⟨lab, v, D, P0, F0, h1, h2, h3, h4⟩ := h
  have hk' : k < v.gs.length := by rw [← h3.gs]; exact hk
  obtain ⟨g, hg⟩ : ∃ g, v.gs[k]? = some g := ⟨_, List.getElem?_eq_getElem hk'⟩
  have HN := hide (no_group_in h1 hk')
  have HL := hide (list_st h1 h4 hN hg c ha)
  have hT := h4.tick 1 1 (by omega) (Nat.le_refl _)
  have hge := grpS_eq h3 hg r
  have hgn := fun h => grp_nil (key := r) h4 hg h
  have hgel : (v.P.filter fun p => sameR (keyR g p.2) r).length = (grpS S k r).length := by rw [hge, List.length_map]
  have HRO := hide (fun (w2 : World) (lab2 : Lab) (m2 : StM w2 lab2 (v.tick 1)) (o : Option Nat) (hd : ListSays v D k r o) =>
    show Calls Tryz.prog 45 #[.pointer (some ⟨x, 0, none⟩), .int .i64 (oi o)] w2 (fun e w' => ∃ A' c', e = .returned (.slice A' (grpS S k r).length c') ∧ ∃ M, MineV M w' A' (grpS S k r).length c' (grpS S k r) ∧ StRM w2 lab2 w' (v.tick 1) M) from by
      cases o with
      | none =>
        have h9 := hgn hd
        have h10 : grpS S k r = [] := by rw [hge, h9]; rfl
        have h11 := rows_none m2
        rw [show (v.tick 1).x = v.x from rfl, h3.x] at h11
        refine h11.mono ?_
        rintro e w' ⟨rfl, h12⟩
        rw [h10]
        exact ⟨none, 0, rfl, _, MineV.nil _ _, StRM.none h12⟩
      | some q =>
        have h11 := rows_of m2 hT.row (n := q) (l := k + 1) (num_lt h1 h4 hk' hd) (Q := v.P.filter fun p => sameR (keyR g p.2) r) (by
          have h9 := (h4.lan.lane k g hg).cont _ hd
          rw [grpC_eq] at h9
          exact h9) (fun p hp => (List.mem_filter.1 hp).1) (by show k + 1 < v.gs.length + 1; omega)
        rw [hgel, show (v.tick 1).x = v.x from rfl, h3.x, ← hge] at h11
        exact h11)
  rw [h3.x] at HN HL
  have H2 := hide h2; have H3 := hide h3; have H4 := hide h4
  clear h1 h2 h3 h4 hge ha hT hgel hgn
  go_enter Tryz.func13, Tryz.ntmps13
  generalize (grpS S k r).length = gl at *
  go_upto_region 3 with ((with_reducible refine HN.out.mono ?_); rintro e w2 ⟨rfl, rfl⟩)
  go_wp2_with (first
    | ((with_reducible refine HL.out.mono ?_); rintro e w3 ⟨o, h5, rfl, h6⟩; obtain ⟨lab3, m3, st3⟩ := step_of h6; have L3 := hide h5; have M3 := hide m3; have S3 := hide st3; clear h5 h6 m3 st3)
    | ((with_reducible refine (HRO.out w3 lab3 M3.out o L3.out).mono ?_); rintro e w4 ⟨A', c', rfl, M, h5, h6⟩; have V4 := hide h5; have S4 := hide h6; clear h5 h6))
  go_ret2
  exact ⟨A', c', rfl, M, V4.out, StSM.of H2.out (StRM.pre S3.out S4.out) (H3.out.tick 1) (H4.out.tick 1 1 (by omega) (Nat.le_refl _))⟩
end Go.Proofs.YtifloafhpeeepaaGreat
