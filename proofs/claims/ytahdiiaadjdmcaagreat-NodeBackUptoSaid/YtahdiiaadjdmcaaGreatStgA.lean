/-
  store: Size, First, Next.
-/
import Derived.Test.YtahdiiaadjdmcaaGreatGbN
import Derived.Test.YtahdiiaadjdmcaaGreatGbD
namespace Go.Proofs.YtahdiiaadjdmcaaGreat
open Go.RowKit

/-- a row is told, of one's own, or none is -/
def OneSays (w : World) (B : Nat → Prop) (x : Nat) (S : SAbs) (N : Nat) (o : Option (List V)) (e : Ending) (w' : World) : Prop := match o with
  | none => e = .returned (.tuple #[.slice none 0 0, .bool false, .int .i64 0]) ∧ StS w B x S N w'
  | some r => ∃ A c M, e = .returned (.tuple #[.slice A r.length c, .bool true, .int .i64 0]) ∧ w'.ownsRow M 85 3 (.slice A r.length c) r.length (cellsR r) ∧ StSM w B x S N w' M
theorem StS.ext' {w w' w2 : World} {B : Nat → Prop} {x : Nat} {S : SAbs} {N : Nat} (h : StS w B x S N w') (hx : Ext w' w2) : StSM w B x S N w2 w'.heap.size := by
  obtain ⟨B', h1, h2, h3, h4⟩ := h
  exact ⟨B', h1.ext hx, h2, h3, h4.trans' (Chg.of hx), h4.size, hx.size⟩
set_option maxRecDepth 100000 in
theorem first_st {w : World} {B : Nat → Prop} {x : Nat} {S : SAbs} {N : Nat} (h : StI w B x S N) (hN : N ≤ 8796093022208) {k : Nat} (hk : k < S.gs.length) {r : List V} {A : Option Addr} {n : Nat} (c : Nat) (ha : ArgR w A n r) :
    Calls Tryz.prog 87 #[.pointer (some ⟨x, 0, none⟩), .int .i64 k, .slice A n c] w (OneSays w B x S (N + 1) (grpS S k r).head?) := by
  obtain ⟨lab, v, D, P0, F0, h1, h2, h3, h4⟩ := h
  have hk' : k < v.gs.length := by rw [← h3.gs]; exact hk
  obtain ⟨g, hg⟩ : ∃ g, v.gs[k]? = some g := ⟨_, List.getElem?_eq_getElem hk'⟩
  have HN := hide (no_group_in h1 hk')
  have HL := hide (list_st h1 h4 hN hg c ha)
  have hge := grpS_eq h3 hg r
  have hgn := fun h => grp_nil (key := r) h4 hg h
  have hnone : ListSays v D k r none → grpS S k r = [] := fun hd => by rw [hge, hgn hd]; rfl
  have hsome : ∀ q, ListSays v D k r (some q) → ∃ s r1 R, grpS S k r = r1 :: R ∧ (s, r1) ∈ v.P ∧ (v.cont q).head? = some (s * v.L + (k + 1)) := fun q hd => by
    have hkey : r ∈ (D k).map (·.1) := List.mem_map.2 ⟨_, hd, rfl⟩
    obtain ⟨p, hp, hpk⟩ := ((h4.lan.lane k g hg).mem r).1 hkey
    have h9 := (h4.lan.lane k g hg).cont _ hd
    rw [grpC_eq] at h9
    have hpf : p ∈ v.P.filter fun p => sameR (keyR g p.2) r := List.mem_filter.2 ⟨hp, sameR_iff.2 hpk⟩
    rw [hge]
    cases hf : v.P.filter fun p => sameR (keyR g p.2) r with
    | nil => rw [hf] at hpf; cases hpf
    | cons p1 R =>
      have hm : p1 ∈ v.P := (List.mem_filter.1 (show p1 ∈ v.P.filter fun p => sameR (keyR g p.2) r by rw [hf]; exact List.mem_cons_self ..)).1
      refine ⟨p1.1, p1.2, R.map (·.2), rfl, hm, ?_⟩
      have : v.cont q = _ := h9
      rw [this, hf]; rfl
  have HE := hide (fun (w2 : World) (lab2 : Lab) (m2 : StM w2 lab2 (v.tick 1)) (q : Nat) (hd : ListSays v D k r (some q)) => m2.ends (n := q) (num_lt h1 h4 hk' hd))
  have HC10 := hide (fun (w2 : World) (lab2 : Lab) (m2 : StM w2 lab2 (v.tick 1)) => show w2.cell? ⟨x, 10, none⟩ = some (.pointer (some ⟨v.xo, 0, none⟩)) from by rw [← h3.x]; exact m2.str.cell 10)
  have hT := h4.tick 1 1 (by omega) (Nat.le_refl _)
  have HRA := hide (fun (w2 : World) (lab2 : Lab) (m2 : StM w2 lab2 (v.tick 1)) (s : Nat) (r1 : List V) (hp : (s, r1) ∈ v.P) => rowAt_any m2.rd hT.row (s := s) (l := k + 1) (r := r1) hp (by show k + 1 < v.gs.length + 1; omega))
  rw [show (v.tick 1).x = v.x from rfl, h3.x] at HRA
  rw [show (v.tick 1).cont = v.cont from rfl, show (v.tick 1).xo = v.xo from rfl] at HE
  rw [show (v.tick 1).L = v.L from rfl] at HRA
  have HNONE := hide hnone; have HSOME := hide hsome
  rw [h3.x] at HN HL
  have H2 := hide h2; have H3 := hide h3; have H4 := hide h4
  clear h1 h2 h3 h4 hge ha hgn hnone hsome hT
  go_enter Tryz.func87, Tryz.ntmps87
  go_upto_region 3 with ((with_reducible refine HN.out.mono ?_); rintro e w2 ⟨rfl, rfl⟩)
  go_upto_region 4 with ((with_reducible refine HL.out.mono ?_); rintro e w3 ⟨o, h5, rfl, h6⟩; have S3 := hide h6; obtain ⟨lab3, m3, st3⟩ := step_of h6; have L3 := hide h5; have M3 := hide m3; have T3 := hide st3; clear h5 h6 m3 st3)
  cases o with
  | none =>
    have h10 := HNONE.out L3.out
    rw [show oi none = -1 from rfl]
    go_wp2_with fail
    go_ret3
    rw [h10]
    exact ⟨rfl, StS.of H2.out S3.out (H3.out.tick 1) (H4.out.tick 1 1 (by omega) (Nat.le_refl _))⟩
  | some q =>
    obtain ⟨s, r1, R, h10, hp, hh⟩ := HSOME.out q L3.out
    have HG := hide h10; have HP := hide hp
    have HEn := hide (HE.out w3 lab3 M3.out q L3.out)
    rw [hh] at HEn
    rw [show oi (some q) = (q : Int) from rfl]
    rw [show oi (some (s * v.L + (k + 1))) = ((s * v.L + (k + 1) : Nat) : Int) from rfl] at HEn
    obtain ⟨cl, hcl⟩ : ∃ cl, s * v.L + (k + 1) = cl := ⟨_, rfl⟩
    rw [hcl] at HEn
    have HCL := hide hcl
    clear hcl
    have hq0 : (0 : Int) ≤ (q : Int) := by omega
    have a10 := HC10.out w3 lab3 M3.out
    clear h10 hp hh HE HSOME HNONE
    go_upto_region 7 with ((with_reducible refine HEn.out.mono ?_); rintro e w4 ⟨rfl, h6⟩; have S4 := hide h6; obtain ⟨lab4, m4, st4⟩ := step_of h6; have M4 := hide m4; clear h6 m4 st4)
    have HRow := hide (HRA.out w4 lab4 M4.out s r1 HP.out)
    rw [HCL.out] at HRow
    go_wp2_with ((with_reducible refine HRow.out.mono ?_); rintro e w5 ⟨A5, c5, rfl, ho, hx⟩; have O5 := hide ho; have X5 := hide hx; clear ho hx)
    go_ret3
    rw [HG.out]
    exact ⟨A5, c5, _, rfl, O5.out, StS.ext' (StS.of H2.out (S4.out.trans T3.out.1 T3.out.2) (H3.out.tick 1) (H4.out.tick 1 1 (by omega) (Nat.le_refl _))) X5.out⟩
theorem wrap_cell1 (s L k : Nat) (h : s * L + (k + 1) ≤ 4611686018427387904) : ∃ q1 q2 cl : Nat, Hid (cl = s * L + (k + 1)) ∧ IntKind.i64.wrap ((s : Int) * (L : Int)) = (q1 : Int) ∧ IntKind.i64.wrap ((q1 : Int) + (k : Int)) = (q2 : Int) ∧ IntKind.i64.wrap ((q2 : Int) + 1) = (cl : Int) :=
  ⟨s * L, s * L + k, s * L + (k + 1), rfl, by rw [Int.natCast_mul]; exact IntWalk.i64_in _ (by rw [← Int.natCast_mul]; omega), by rw [Int.natCast_add]; exact IntWalk.i64_in _ (by omega), by rw [show ((s * L + (k + 1) : Nat) : Int) = ((s * L + k : Nat) : Int) + 1 by omega]; exact IntWalk.i64_in _ (by omega)⟩
/-- what Next tells: r is the i-th of its group, and the next one is told -/
def NextSays (w : World) (B : Nat → Prop) (x : Nat) (S : SAbs) (N k : Nat) (g : List Nat) (r : List V) (e : Ending) (w' : World) : Prop :=
  (inB S.rows r = false ∧ e = .returned (.tuple #[.slice none 0 0, .bool false, .int .i64 62]) ∧ StS w B x S N w') ∨
  (inB S.rows r = true ∧ ∃ i, (grpS S k (keyR g r))[i]? = some r ∧ OneSays w B x S N (grpS S k (keyR g r))[i + 1]? e w')
set_option maxRecDepth 100000 in
theorem next_st {w : World} {B : Nat → Prop} {x : Nat} {S : SAbs} {N : Nat} (h : StI w B x S N) (hN : N ≤ 8796093022208) {k : Nat} {g : List Nat} (hgS : S.gs[k]? = some g) {r : List V} {A : Option Addr} {n : Nat} (c : Nat) (ha : ArgR w A n r) :
    Calls Tryz.prog 88 #[.pointer (some ⟨x, 0, none⟩), .int .i64 k, .slice A n c] w (NextSays w B x S (N + 1) k g r) := by
  obtain ⟨lab, v, D, P0, F0, h1, h2, h3, h4⟩ := h
  have hg : v.gs[k]? = some g := by rw [← h3.gs]; exact hgS
  have hk' : k < v.gs.length := (List.getElem?_eq_some_iff.1 hg).1
  have HN := hide (no_group_in h1 hk')
  have HS := hide (slot_st h1 h4 hN c ha)
  have hge := grpS_eq h3 hg (keyR g r)
  have hT := h4.tick 1 1 (by omega) (Nat.le_refl _)
  have hsome : ∀ s : Nat, (s, r) ∈ v.P → ∃ q i, s * v.L + (k + 1) ∈ v.cont q ∧ (grpS S k (keyR g r))[i]? = some r ∧
      ((nextOf (v.cont q) (s * v.L + (k + 1)) = none ∧ (grpS S k (keyR g r))[i + 1]? = none) ∨ ∃ s1 r1, nextOf (v.cont q) (s * v.L + (k + 1)) = some (s1 * v.L + (k + 1)) ∧ (s1, r1) ∈ v.P ∧ (grpS S k (keyR g r))[i + 1]? = some r1) := fun s hp => by
    obtain ⟨⟨key, q⟩, hd, hkq⟩ := List.mem_map.1 (((h4.lan.lane k g hg).mem (keyR g r)).2 ⟨_, hp, rfl⟩)
    obtain rfl : key = keyR g r := hkq
    have h9 : v.cont q = _ := (h4.lan.lane k g hg).cont _ hd
    rw [grpC_eq] at h9
    have hpf : (s, r) ∈ v.P.filter fun p => sameR (keyR g p.2) (keyR g r) := List.mem_filter.2 ⟨hp, sameR_iff.2 rfl⟩
    obtain ⟨i, hi, e⟩ := List.getElem_of_mem hpf
    have hc : (v.cont q)[i]? = some (s * v.L + (k + 1)) := by rw [h9, List.getElem?_map, List.getElem?_eq_getElem hi, e]; rfl
    have hnx := nextOf_get (cont_nd (h1.part 7) q) hc
    refine ⟨q, i, List.mem_of_getElem? hc, by rw [hge, List.getElem?_map, List.getElem?_eq_getElem hi, e]; rfl, ?_⟩
    rw [hnx, h9, hge, List.getElem?_map, List.getElem?_map]
    cases hf : (v.P.filter fun p => sameR (keyR g p.2) (keyR g r))[i + 1]? with
    | none => exact .inl ⟨rfl, rfl⟩
    | some p1 => exact .inr ⟨p1.1, p1.2, rfl, (List.mem_filter.1 (List.mem_of_getElem? hf)).1, rfl⟩
  have HNX := hide (fun (w2 : World) (lab2 : Lab) (m2 : StM w2 lab2 (v.tick 1)) (q cl : Nat) (hc : cl ∈ v.cont q) => next_any (m2.part 7) (n := q) (c := cl) hc)
  have HC10 := hide (fun (w2 : World) (lab2 : Lab) (m2 : StM w2 lab2 (v.tick 1)) => show w2.cell? ⟨x, 10, none⟩ = some (.pointer (some ⟨v.xo, 0, none⟩)) ∧ w2.cell? ⟨x, 2, none⟩ = some (.int .i64 (v.L : Int)) ∧ w2.cell? ⟨v.xo, 0, none⟩ = some (.int .i64 ((v.most * v.L : Nat) : Int)) from by
    rw [← h3.x]
    obtain ⟨LA, cA, LE, cE, at_, en, k1, k2⟩ := (m2.part 7).mem
    exact ⟨m2.str.cell 10, m2.str.cell 2, k1.blk.cell 0⟩)
  have HRA := hide (fun (w2 : World) (lab2 : Lab) (m2 : StM w2 lab2 (v.tick 1)) (s : Nat) (r1 : List V) (hp : (s, r1) ∈ v.P) => rowAt_any m2.rd hT.row (s := s) (l := k + 1) (r := r1) hp (by show k + 1 < v.gs.length + 1; omega))
  rw [show (v.tick 1).x = v.x from rfl, h3.x] at HRA
  rw [show (v.tick 1).xo = v.xo from rfl] at HNX
  rw [show (v.tick 1).L = v.L from rfl] at HRA
  have HSOME := hide hsome
  have HB := hide (fun (s : Nat) (hp : (s, r) ∈ v.P) => show s * v.L + (k + 1) ≤ 4611686018427387904 from by
    have h5 := (h4.row.alive s).2 (List.mem_map.2 ⟨_, hp, rfl⟩)
    have h6 := thg_lt h5
    have h7 := (h1.part 2).ok.len
    have h8 := h4.row.most
    have h9 := h4.row.gsl
    have hL5 : v.L ≤ 5 := by unfold StV.L; omega
    have h10 : s * v.L ≤ 65536 * 5 := Nat.mul_le_mul (by omega) hL5
    omega)
  rw [h3.x] at HN HS
  have H2 := hide h2; have H3 := hide h3; have H4 := hide h4
  clear h1 h2 h3 h4 hge ha hsome hT
  go_enter Tryz.func88, Tryz.ntmps88
  go_upto_region 3 with ((with_reducible refine HN.out.mono ?_); rintro e w2 ⟨rfl, rfl⟩)
  go_upto_region 4 with ((with_reducible refine HS.out.mono ?_); rintro e w3 ⟨o, h12, rfl, h6⟩; have S3 := hide h6; obtain ⟨lab3, m3, st3⟩ := step_of h6; have O1 := hide (slot_inB H3.out.rows h12); have O2 := hide h12; have M3 := hide m3; have T3 := hide st3; clear h12 h6 m3 st3)
  cases o with
  | none =>
    rw [show (none : Option Int).getD (-1) = -1 from rfl]
    go_wp2_with fail
    go_ret3
    exact .inl ⟨O1.out, rfl, StS.of H2.out S3.out (H3.out.tick 1) (H4.out.tick 1 1 (by omega) (Nat.le_refl _))⟩
  | some z =>
    obtain ⟨s, rfl, hp⟩ := O2.out.1 z rfl
    obtain ⟨q, i, hcq, hgi, hnx⟩ := HSOME.out s hp
    obtain ⟨c10, c2, cx⟩ := HC10.out w3 lab3 M3.out
    have hb := HB.out s hp
    obtain ⟨q1, q2, cl, HCL, hw1, hw2, hw3⟩ := wrap_cell1 s v.L k (by omega)
    have HNx := hide (fun (w4 : World) (h4 : Ext w3 w4) => HNX.out w4 lab3 (M3.out.ext h4) q _ hcq)
    have HO := hide O1.out.1; have HGI := hide hgi; have HNN := hide hnx
    rw [← HCL.out] at HNx
    obtain ⟨nx, hNV⟩ : ∃ nx : Int, oi (nextOf (v.cont q) cl) = nx := ⟨_, rfl⟩
    rw [show (v.tick 1).cont = v.cont from rfl, hNV] at HNx
    have HNV := hide hNV
    have hs0 : (0 : Int) ≤ (s : Int) := by omega
    clear hNV hb hp hcq hgi hnx O1 O2 HC10 HNX HSOME HB
    rw [show (some (s : Int)).getD (-1) = (s : Int) from rfl]
    go_upto_region 6 with fail
    have c10 := cell_ext c10; have c2 := cell_ext c2
    clear cx
    refine wp_region_ext 21 (by kernel_rfl) (by kernel_rfl) (by kernel_rfl) ?_
    iterate 15
      refine wpE_k (by kernel_rfl) (by kernel_rfl) ?_
      apply Exists.intro
      refine ⟨fun w1 hw1 => ?_, fun K hK => ?_⟩
      · go_simp; first | done | rfl
      go_simp; refine hK _ _ ?_; clear hK K
    iterate 1
      refine wpE_k (by kernel_rfl) (by kernel_rfl) ?_
      apply Exists.intro
      refine ⟨fun w1 hw1 => ?_, fun K hK => ?_⟩
      · go_simp; first | done | rfl | exact (HNx.out _ ‹_›).mono fun e w' h => ⟨h.1, by rw [h.2]; exact Ext.refl _⟩
      go_simp; refine hK _ _ ?_; clear hK K
    iterate 5
      refine wpE_k (by kernel_rfl) (by kernel_rfl) ?_
      apply Exists.intro
      refine ⟨fun w1 hw1 => ?_, fun K hK => ?_⟩
      · go_simp; first | done | rfl
      go_simp; refine hK _ _ ?_; clear hK K
    refine wpE_nil ⟨rfl, by kernel_rfl, fun w4 hw4 => ?_⟩
    simp only [EndQ]
    refine wpList_nil ?_
    have M4 := hide (M3.out.ext hw4)
    have T4 := hide (show StR w2 lab w4 (v.tick 1) from ⟨lab3, M4.out, T3.out.1, T3.out.2.trans' (Chg.of hw4)⟩)
    clear c10 c2 HNx hw4 hw1 hw2 hw3
    rcases HNN.out with ⟨hn1, hn2⟩ | ⟨s1, r1, hn1, hn2, hn3⟩
    · have hnv := HNV.out
      rw [HCL.out, hn1] at hnv
      obtain rfl : nx = -1 := hnv.symm
      have HI2 := hide hn2
      clear hn1 hn2 hnv HNN
      go_wp2_with fail
      go_ret3
      refine .inr ⟨HO.out, i, HGI.out, ?_⟩
      rw [HI2.out]
      exact ⟨rfl, StS.of H2.out T4.out (H3.out.tick 1) (H4.out.tick 1 1 (by omega) (Nat.le_refl _))⟩
    · have hnv := HNV.out
      rw [HCL.out, hn1] at hnv
      have HRow := hide (HRA.out w4 lab3 M4.out s1 r1 hn2)
      obtain ⟨c9, hc9⟩ : ∃ c9, s1 * v.L + (k + 1) = c9 := ⟨_, rfl⟩
      rw [hc9] at HRow hnv
      obtain rfl : nx = (c9 : Int) := hnv.symm
      have HI2 := hide hn3
      have h09 : (0 : Int) ≤ (c9 : Int) := by omega
      clear hn1 hn2 hn3 hnv HNN hc9 HNV
      go_wp2_with ((with_reducible refine HRow.out.mono ?_); rintro e w5 ⟨A5, c5, rfl, ho, hx⟩; have O5 := hide ho; have X5 := hide hx; clear ho hx)
      go_ret3
      refine .inr ⟨HO.out, i, HGI.out, ?_⟩
      rw [HI2.out]
      exact ⟨A5, c5, _, rfl, O5.out, StS.ext' (StS.of H2.out T4.out (H3.out.tick 1) (H4.out.tick 1 1 (by omega) (Nat.le_refl _))) X5.out⟩
end Go.Proofs.YtahdiiaadjdmcaaGreat
