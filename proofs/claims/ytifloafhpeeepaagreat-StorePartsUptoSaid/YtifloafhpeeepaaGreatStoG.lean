/-
  store: unlink: a row is taken out of all its lists.
-/
import Derived.Test.YtifloafhpeeepaaGreatStoF
namespace Go.Proofs.YtifloafhpeeepaaGreat
open Go.RowKit

/-- what unlink leaves -/
structure Unlinked (v v' : StV) (s : Nat) (P' : List SRow) : Prop where
  kept : Kept v v'
  P : v'.P = P'
  fs : fsOf v'.most v'.sl v'.fr = s :: fsOf v.most v.sl v.fr
  K : v'.K ≤ v.K + 20
  gs : ∀ i, genA v'.sl i = genA v.sl i
  gL : ∀ i, genA v'.sL i = genA v.sL i
theorem StGen.low {sl sL : List (Slt Value)} {M : Nat} (h1 : ∀ i, genA sl i < M) (h2 : ∀ i, genA sL i < M) : StGen sl sL M :=
  ⟨fun i => by have := h1 i; split <;> omega, fun i => by have := h2 i; split <;> omega⟩
/-- unlink's rounds: l lanes are done -/
def UnInv (w : World) (lab : Lab) (v : StV) (P' : List SRow) (vals : List Value) (bh l : Nat) (w' : World) : Prop :=
  ∃ lab' v' D', StM w' lab' v' ∧ (∀ b, lab'.dom b → lab.dom b ∨ w.heap.size ≤ b) ∧ Chg lab.dom w w' ∧ Kept v v' ∧ v'.P = v.P ∧ v'.sl = v.sl ∧ v'.fr = v.fr ∧ v'.refs = v.refs ∧ v'.E = v.E ∧ StRow v' ∧ StLan v'.L v'.gs v'.G v'.cont v'.sL v'.lL v'.lrefs D' (Ql v.P P' l) ∧ (∀ i, genA v'.sL i = genA v.sL i) ∧ v'.K ≤ v.K + 3 * l ∧ Blk w' bh 3 (fillAt vals (.int .i64 0) l) ∧ ¬ lab'.dom bh
theorem NumAt.ofBlk {w : World} {bh : Nat} {xs : List Int} (h : Blk w bh 3 (fillAt (xs.map (Value.int .i64)) (.int .i64 0) xs.length)) (hb : xs.length ≤ 1048576) : w.ownsRow bh 3 1 (.slice (some ⟨bh, 0, none⟩) xs.length xs.length) xs.length (xs.map (Value.int .i64)) := by
  have e : fillAt (xs.map (Value.int .i64)) (.int .i64 0) xs.length = (xs.map (Value.int .i64)).toArray := by
    have h1 := fillAt_end (xs.map (Value.int .i64)) (.int .i64 0)
    rw [List.length_map] at h1
    exact h1
  rw [e] at h
  refine ⟨by simp, .inr ⟨bh, xs.length, _, rfl, Nat.le_refl _, h, Nat.le_refl _, by unfold maxLen; omega, by simp, ?_⟩⟩
  simp only [List.take_of_length_le, List.length_map, Nat.mul_one, Nat.le_refl]

theorem gen_give {sl sl0 : List (Slt Value)} {i g : Nat} {u : Value} (h : sl[i]? = some (g, some u)) (e : sl = sl0) (j : Nat) : genA (sl.set i (g, none)) j = genA sl0 j := by
  subst e
  rw [genA_set (List.getElem?_eq_some_iff.1 h).1]
  by_cases hj : j = i
  · rw [if_pos hj, hj, genA_at h]
  · rw [if_neg hj]
/-- steps of a store, one behind the other -/
def Step (w : World) (lab : Lab) (w' : World) (lab' : Lab) : Prop := (∀ b, lab'.dom b → lab.dom b ∨ w.heap.size ≤ b) ∧ Chg lab.dom w w'
theorem step_on {w w1 w2 : World} {lab lab1 lab2 : Lab} (h : Step w lab w1 lab1) (k : Step w1 lab1 w2 lab2) : Step w lab w2 lab2 :=
  ⟨fun b hb => (k.1 b hb).elim (h.1 b) fun h9 => .inr (Nat.le_trans h.2.size h9), h.2.trans k.2 fun g hg hl => (h.1 g hg).resolve_right (by omega)⟩
theorem step_pre {w w1 w2 : World} {lab lab1 : Lab} (h : Step w lab w1 lab1) (k : Ext w1 w2) : Step w lab w2 lab1 := ⟨h.1, h.2.trans' (Chg.of k)⟩
theorem cont_nd {w : World} {B : Nat → Prop} {x cells lists : Nat} {cont : Nat → List Nat} (h : HCh w B x cells lists cont) (n : Nat) : (cont n).Nodup := by
  obtain ⟨LA, cA, LE, cE, at_, en, h1, h2⟩ := h.mem
  exact h2.nd n
set_option maxRecDepth 100000 in
set_option maxHeartbeats 2000000 in
theorem unlink_any {w : World} {lab : Lab} {v : StV} {D : Nat → List (List V × Nat)} {N M : Nat} (h : StM w lab v) (hat : StAt v D N) (hM1 : ∀ i, genA v.sl i < M) (hM2 : ∀ i, genA v.sL i < M) (hM : M ≤ 1073741824) (hK : v.K ≤ 4611686018427380000)
    {P1 P2 : List SRow} {s : Nat} {r : List V} (hP : v.P = P1 ++ (s, r) :: P2) :
    Calls Tryz.prog 44 #[.pointer (some ⟨v.x, 0, none⟩), .int .i64 s] w fun e w' => ∃ (bh : Nat) (v' : StV) (D' : Nat → List (List V × Nat)), e = .returned (.slice (some ⟨bh, 0, none⟩) v.L v.L) ∧ Unlinked v v' s (P1 ++ P2) ∧
      w.heap.size ≤ bh ∧ w'.ownsRow bh 3 1 (.slice (some ⟨bh, 0, none⟩) v.L v.L) v.L ((aheads v.gs r P2).map (Value.int .i64)) ∧ (∃ lab', StM w' lab' v' ∧ (∀ b, lab'.dom b → lab.dom b ∨ w.heap.size ≤ b) ∧ Chg lab.dom w w' ∧ ¬ lab'.dom bh) ∧ StAt v' D' M := by
  obtain ⟨i0, hi0, hz0, hz1, hz2⟩ := info_parts infoI
  have hin : (s, r) ∈ v.P := by rw [hP]; simp
  have hrows := hat.row.rows _ hin
  obtain ⟨A, nA, c, hth, hrow⟩ := (h.part 8).1 s r hin
  obtain rfl := hrow.1.1
  obtain ⟨gn, hgn⟩ := thg_some hth
  have hgA : genA v.sl s = gn := genA_at hgn
  have href := hat.row.refs _ hin
  dsimp only at href
  rw [hgA] at href
  have hsm : s < v.most := Nat.lt_of_lt_of_le (thg_lt (by rw [hth]; rfl)) (h.part 2).ok.len
  have hmost := hat.row.most
  have hg4 := hat.row.gsl
  have hL5 : v.L ≤ 5 := by unfold StV.L; omega
  have hL0 : 0 < v.L := by unfold StV.L; omega
  have hLn := hide (show v.L = (aheads v.gs r P2).length by simp [aheads, StV.L])
  have hrl : r.length ≤ 30 := by
    have h1 := hrows.1
    unfold fitsR at h1
    rw [Bool.and_eq_true, decide_eq_true_eq] at h1
    rw [h1.1]; exact hat.row.width
  have hmk := run_make_n (P := Tryz.prog) 27 3 i0 _ Tryz.underlying27 hi0 hz0 (by omega) .i64 .i64 v.L (by omega)
  simp only [hz1] at hmk
  have a4 : w.cell? ⟨v.x, 4, none⟩ = some (.pointer (some ⟨v.xs, 0, none⟩)) := h.str.cell 4
  have a5 : w.cell? ⟨v.x, 5, none⟩ = some (.map (some v.rm)) := h.str.cell 5
  have hlk : ∀ w3, Ext w w3 → (Instr.lookup 71 (.map (some v.rm)) (.int .i64 (s : Int)) false).run Tryz.prog w3 = .ok (.agg #[.int .i64 s, .int .i64 gn]) w3 := fun w3 h3 => by
    obtain ⟨-, nn, -, hmap⟩ := (h.ext h3).part 3
    have h9 := run_imap 71 132 Tryz.underlying71 (z := .agg #[.int .i64 0, .int .i64 0]) (fun w => zref w) hmap (k := s) (by omega)
    rw [href] at h9
    exact h9
  have HAt := hide (fun (w3 : World) (h3 : Ext w w3) => arena_atR ((h.ext h3).part 2) hgn)
  have HROW := hide (fun (wx : World) (labx : Lab) (vx : StV) (hx : StM wx labx vx) (h1 : vx.sl = v.sl) (h2 : (s, r) ∈ vx.P) => show ArgR wx A r.length r from by
    obtain ⟨A', n', c', e1, e2⟩ := (hx.part 8).1 s r h2
    rw [h1, hth] at e1
    obtain ⟨rfl, rfl, rfl⟩ : A = A' ∧ r.length = n' ∧ c = c' := by injection e1 with e1; injection e1 with e1 e3 e4; exact ⟨e1, e3, e4⟩
    exact ⟨e2.1, by omega, hrows.2.1, hrows.2.2⟩)
  have HH := hide h; have HAT := hide hat; have HP := hide hP; have HIN := hide hin; have HRW := hide hrows; have HTH := hide hth; have HGN := hide hgn; have HREF := hide href; have HM1 := hide hM1; have HM2 := hide hM2; have HGA := hide hgA
  clear h hat hP hin hrows hrow hth hgn href hM1 hM2 hgA hz0 hz1 hz2 hi0
  go_enter Tryz.func44, Tryz.ntmps44
  go_upto_region 1 with fail
  have a4 := cell_ext a4; have a5 := cell_ext a5
  refine wp_region_ext 16 (by kernel_rfl) (by kernel_rfl) (by kernel_rfl) ?_
  iterate 10
    refine wpE_k (by kernel_rfl) (by kernel_rfl) ?_
    apply Exists.intro
    refine ⟨fun w1 hw1 => ?_, fun K hK => ?_⟩
    · go_simp; first | done | rfl
    go_simp; refine hK _ _ ?_; clear hK K
  iterate 1
    refine wpE_k (by kernel_rfl) (by kernel_rfl) ?_
    apply Exists.intro
    refine ⟨fun w1 hw1 => ?_, fun K hK => ?_⟩
    · go_simp; first | done | rfl | exact HAt.out _ ‹_›
    go_simp; refine hK _ _ ?_; clear hK K
  iterate 5
    refine wpE_k (by kernel_rfl) (by kernel_rfl) ?_
    apply Exists.intro
    refine ⟨fun w1 hw1 => ?_, fun K hK => ?_⟩
    · go_simp; first | done | rfl
    go_simp; refine hK _ _ ?_; clear hK K
  refine wpE_nil ⟨rfl, by kernel_rfl, fun w1 hw1 => ?_⟩
  simp only [EndQ]
  refine wpList_nil ?_
  have S1 := hide (HH.out.ext hw1); have E1 := hide hw1
  clear a4 a5 hlk HAt
  have a2 : w1.cell? ⟨v.x, 2, none⟩ = some (.int .i64 (v.L : Int)) := S1.out.str.cell 2
  clear hw1
  go_upto_region 3 with fail
  have HVL := hide (show (Value.int .i64 (1 : Int)) = .int .i64 1 from rfl)
  clear HVL
  obtain ⟨vals, hvals⟩ : ∃ vals, vals = (aheads v.gs r P2).map (Value.int .i64) := ⟨_, rfl⟩
  have hvl : vals.length = v.L := by rw [hvals, List.length_map]; exact hLn.out.symm
  have HB2 := hide (show Blk (w1.alloc (.cells (madeCells #[.int .i64 0] v.L) 3)) w1.heap.size 3 (fillAt vals (.int .i64 0) 0) by rw [← hvl, fillAt_zero]; exact Blk.new _ _ _)
  have E2 := hide (Ext.alloc w1 (.cells (madeCells #[.int .i64 0] v.L) 3))
  have hbh1 := hide (show w.heap.size ≤ w1.heap.size from E1.out.size)
  have hbh2 := hide (show ¬ lab.dom w1.heap.size from fun ⟨j, hj⟩ => by have := S1.out.lt _ _ hj; omega)
  generalize w1.alloc (.cells (madeCells #[.int .i64 0] v.L) 3) = w2 at *
  generalize w1.heap.size = bh at *
  have S2 := hide (S1.out.ext E2.out)
  have X2 := hide (E1.out.trans E2.out)
  have HVALS := hide hvals; have HVL := hide hvl
  clear hvals hvl a2 E1 E2 S1 hmk
  have a2 : w2.cell? ⟨v.x, 2, none⟩ = some (.int .i64 (v.L : Int)) := S2.out.str.cell 2
  have HINV := hide (show UnInv w lab v (P1 ++ P2) vals bh 0 w2 from ⟨lab, v, D, S2.out, fun _ hb => .inl hb, Chg.of X2.out, Kept.refl v, rfl, rfl, rfl, rfl, rfl, HAT.out.row, by rw [Ql_zero]; exact HAT.out.lan, fun _ => rfl, by omega, HB2.out, hbh2.out⟩)
  clear S2 HB2
  go_wp2_with fail
  clear a2
  go_loopw [8, 9, 10, 34] (fun _ _ _ s34 w' => ∃ l : Nat, l ≤ v.L ∧ s34 = .int .i64 l ∧ Hid (UnInv w lab v (P1 ++ P2) vals bh l w')) (fun _ _ _ s34 _ => v.L - (intOf s34).toNat)
  case atStart => exact ⟨0, by omega, rfl, HINV⟩
  case round =>
    obtain ⟨l, hlm, rfl, hI⟩ := hrel
    obtain ⟨lab1, v1, Dl, s1, d1, c1, k1, eP, esl, efr, erf, eE, R1, L1, g1, hK1, B1, hnb1⟩ := hI.out
    have S1 := hide s1; have D1 := hide d1; have C1 := hide c1; have K1 := hide k1; have EP := hide eP; have ES := hide esl; have EF := hide efr; have ER := hide erf; have EE := hide eE; have RR1 := hide R1; have LL1 := hide L1; have GG1 := hide g1; have HK1 := hide hK1; have BB1 := hide B1; have NB1 := hide hnb1
    clear s1 d1 c1 k1 eP esl efr erf eE R1 L1 g1 hK1 B1 hnb1 hI
    by_cases hlL : l < v.L
    · obtain ⟨o, ho1, ho2, ho3⟩ := aheads_at v.gs r P2 v.L l (by unfold StV.L at hlL; omega)
      have HERE := hide (show ∃ (nL : Nat) (E1 E2 : List Nat), v1.cont nL = E1 ++ (s * v.L + l) :: E2 ∧ E2.head? = o.map (fun s => s * v.L + l) ∧ (l = 0 → nL = 0 ∧ E1 = (P1.map fun p : SRow => p.1 * v.L) ∧ E2 = (P2.map fun p : SRow => p.1 * v.L)) ∧ (∀ k g, l = k + 1 → v1.gs[k]? = some g → (keyR g r, nL) ∈ Dl k ∧ E1 = grpC v.L k g P1 (keyR g r) ∧ E2 = grpC v.L k g P2 (keyR g r)) from by
        rcases Nat.eq_zero_or_pos l with rfl | hl0
        · refine ⟨0, P1.map fun p : SRow => p.1 * v.L, P2.map fun p : SRow => p.1 * v.L, ?_, ho2 rfl, fun _ => ⟨rfl, rfl, rfl⟩, fun k g e => by omega⟩
          rw [LL1.out.c0, Ql_at, HP.out, List.map_append, List.map_cons, K1.out.L]; rfl
        · obtain ⟨k, rfl⟩ : ∃ k, l = k + 1 := ⟨l - 1, by omega⟩
          have hkl : k < v.gs.length := by unfold StV.L at hlL; omega
          have hgk : v1.gs[k]? = some v.gs[k] := by rw [K1.out.gs]; exact List.getElem?_eq_getElem hkl
          obtain ⟨n, hd, hc⟩ := lane_here LL1.out hgk (P1 := P1) (P2 := P2) (s := s) (r := r) (by rw [Ql_at, HP.out])
          rw [K1.out.L] at hc
          refine ⟨n, _, _, hc, ho3 k _ rfl (List.getElem?_eq_getElem hkl), fun e => by omega, fun k' g e hg => ?_⟩
          obtain rfl : k = k' := by omega
          obtain rfl : v.gs[k] = g := Option.some.inj (hgk.symm.trans hg)
          exact ⟨hd, rfl, rfl⟩)
      obtain ⟨nL, E1, E2, hcont, hhead, hl0, hlk⟩ := HERE.out
      have HO := hide ho1; have HC := hide hcont; have HH2 := hide hhead; have HL0 := hide hl0; have HLK := hide hlk
      clear ho1 ho2 ho3 hcont hhead hl0 hlk HERE
      have hsL : s * v.L + l < v.most * v.L := by
        have h1 : s * v.L + v.L ≤ v.most * v.L := by rw [← Nat.succ_mul]; exact Nat.mul_le_mul_right _ hsm
        omega
      have hmL : v.most * v.L ≤ 327680 := Nat.le_trans (Nat.mul_le_mul hmost.2 hL5) (by omega)
      obtain ⟨q1, cl, HCL, hwl1, hwl2⟩ := wrap_cell s v.L l (by omega)
      have HNX := hide (fun (w3 : World) (h3 : Ext wr w3) => next_any ((S1.out.ext h3).part 7) (n := nL) (c := s * v.L + l) (by rw [HC.out]; simp))
      have hnx : nextOf (v1.cont nL) (s * v.L + l) = o.map fun s => s * v.L + l := by
        have hnd := cont_nd (S1.out.part 7) nL
        rw [HC.out] at hnd ⊢
        rw [nextOf_mid hnd, HH2.out]
      obtain ⟨nx, hNV⟩ : ∃ nx : Int, oi (o.map fun s => s * v.L + l) = nx := ⟨_, rfl⟩
      rw [hnx, ← HCL.out, hNV] at HNX
      have HNV := hide hNV
      clear hnx hsL hNV
      have a10 : wr.cell? ⟨v.x, 10, none⟩ = some (.pointer (some ⟨v1.xo, 0, none⟩)) := by rw [← K1.out.x]; exact S1.out.str.cell 10
      have a2 : wr.cell? ⟨v.x, 2, none⟩ = some (.int .i64 (v.L : Int)) := by rw [← K1.out.x, ← K1.out.L]; exact S1.out.str.cell 2
      go_upto_region 6 with fail
      have a10 := cell_ext a10; have a2 := cell_ext a2
      refine wp_region_ext 20 (by kernel_rfl) (by kernel_rfl) (by kernel_rfl) ?_
      iterate 14
        refine wpE_k (by kernel_rfl) (by kernel_rfl) ?_
        apply Exists.intro
        refine ⟨fun w1 hw1 => ?_, fun K hK => ?_⟩
        · go_simp; first | done | rfl
        go_simp; refine hK _ _ ?_; clear hK K
      iterate 1
        refine wpE_k (by kernel_rfl) (by kernel_rfl) ?_
        apply Exists.intro
        refine ⟨fun w1 hw1 => ?_, fun K hK => ?_⟩
        · go_simp; first | done | rfl | exact (HNX.out _ ‹_›).mono fun e w' h => ⟨h.1, by rw [h.2]; exact Ext.refl _⟩
        go_simp; refine hK _ _ ?_; clear hK K
      iterate 5
        refine wpE_k (by kernel_rfl) (by kernel_rfl) ?_
        apply Exists.intro
        refine ⟨fun w1 hw1 => ?_, fun K hK => ?_⟩
        · go_simp; first | done | rfl
        go_simp; refine hK _ _ ?_; clear hK K
      refine wpE_nil ⟨rfl, by kernel_rfl, fun w3 hw3 => ?_⟩
      simp only [EndQ]
      refine wpList_nil ?_
      have S3 := hide (S1.out.ext hw3)
      have B3 := hide (BB1.out.ext hw3)
      have C3 := hide (C1.out.trans' (Chg.of hw3))
      clear a10 a2 HNX S1 BB1 hw3
      have e1 : w3.cell? ⟨bh, l, none⟩ = some (.int .i64 0) := (B3.out.cell l).trans (fillAt_get _ _ l (by have := HVL.out; omega))
      have e2 : w3.frozen? ⟨bh, l, none⟩ = false := B3.out.frozen l
      go_upto_if 59 with fail
      have C4 := hide (C3.out.setCell (p := ⟨bh, l, none⟩) (.inr hbh1.out) (.int .i64 (-1)))
      have c4 : Chg (fun g => g = bh) w3 (w3.setCell ⟨bh, l, none⟩ (.int .i64 (-1))) := Chg.setCell (B := fun g => g = bh) (Chg.refl _ w3) (p := ⟨bh, l, none⟩) (.inl rfl) _
      have S4 := hide (S3.out.chg c4 fun g hg e => NB1.out (e ▸ hg))
      have B4 := hide (B3.out.set_ l (.int .i64 (-1)))
      have hvo : vals[l]? = some (.int .i64 (oi o)) := by rw [HVALS.out, List.getElem?_map, HO.out]; rfl
      have HVO := hide hvo
      clear e1 e2 S3 B3 C3 c4 hvo
      generalize w3.setCell ⟨bh, l, none⟩ (.int .i64 (-1)) = w4 at *
      go_cut [9] from 35 to 93 (fun _ wx => Hid (StM wx lab1 v1) ∧ Hid (Chg lab.dom w wx) ∧ Hid (Blk wx bh 3 (fillAt vals (.int .i64 0) (l + 1))))
      case first =>
        cases o with
        | none =>
          obtain rfl : -1 = nx := HNV.out
          go_wp2_with fail
          go_meet
          refine ⟨S4, C4, ?_⟩
          rw [← fillAt_set _ _ l _ HVO.out]; exact B4
        | some a =>
          have hac : ∃ ca : Nat, Hid (ca = a * v.L + l) ∧ (0 : Int) ≤ (ca : Int) ∧ (ca : Int).tdiv (v.L : Int) = (a : Int) := ⟨a * v.L + l, rfl, by omega, by
            have h1 : (a * v.L + l) / v.L = a := by rw [Nat.mul_comm, Nat.mul_add_div hL0, Nat.div_eq_of_lt hlL, Nat.add_zero]
            rw [Int.tdiv_eq_ediv_of_nonneg (by omega), ← Int.natCast_ediv, h1]⟩
          obtain ⟨ca, HCA, hca0, hca1⟩ := hac
          obtain rfl : (ca : Int) = nx := by rw [HCA.out]; exact HNV.out
          have a2 : w4.cell? ⟨v.x, 2, none⟩ = some (.int .i64 (v.L : Int)) := by rw [← K1.out.x, ← K1.out.L]; exact S4.out.str.cell 2
          have e1 : w4.cell? ⟨bh, l, none⟩ = some (.int .i64 (-1)) := (B4.out.cell l).trans (by rw [Array.getElem?_setIfInBounds_self_of_lt]; rw [fillAt_size _ _ _ (by have := HVL.out; omega)]; have := HVL.out; omega)
          have e2 : w4.frozen? ⟨bh, l, none⟩ = false := B4.out.frozen l
          have hL1 : ¬ (v.L : Int) = 0 := by omega
          have hwa : wrap64 (a : Int) = (a : Int) := by
            have h1 : (a * v.L + l) ∈ v1.cont nL := by
              obtain ⟨y, hy⟩ : ∃ y, E2 = (a * v.L + l) :: y := by
                have h1 := HH2.out
                cases E2 with
                | nil => cases h1
                | cons x y =>
                  simp only [List.head?_cons, Option.map_some, Option.some.injEq] at h1
                  exact ⟨y, by rw [h1]⟩
              rw [HC.out, hy]; simp
            have h2 := cont_lt (S4.out.part 7) h1
            rw [K1.out.most, K1.out.L] at h2
            have h3 : a ≤ a * v.L := Nat.le_mul_of_pos_right _ hL0
            exact IntWalk.wrap64_in _ (by omega)
          go_wp2_with fail
          go_meet
          have c5 : Chg (fun g => g = bh) w4 (w4.setCell ⟨bh, l, none⟩ (.int .i64 a)) := Chg.setCell (B := fun g => g = bh) (Chg.refl _ w4) (p := ⟨bh, l, none⟩) (.inl rfl) _
          refine ⟨hide (S4.out.chg c5 fun g hg e => NB1.out (e ▸ hg)), hide (C4.out.setCell (p := ⟨bh, l, none⟩) (.inr hbh1.out) _), ?_⟩
          have h1 := B4.out.set_ l (.int .i64 (a : Int))
          have hv2 : vals[l]? = some (.int .i64 (a : Int)) := HVO.out
          rw [Array.setIfInBounds_setIfInBounds, fillAt_set _ _ l _ hv2] at h1
          exact h1
      case rest =>
        obtain ⟨S5, C5, B5⟩ := hcut
        clear S4 C4 B4
        have a10 : wc.cell? ⟨v.x, 10, none⟩ = some (.pointer (some ⟨v1.xo, 0, none⟩)) := by rw [← K1.out.x]; exact S5.out.str.cell 10
        have a2 : wc.cell? ⟨v.x, 2, none⟩ = some (.int .i64 (v.L : Int)) := by rw [← K1.out.x, ← K1.out.L]; exact S5.out.str.cell 2
        go_upto_region 10 with fail
        have a10 := cell_ext a10; have a2 := cell_ext a2
        refine wp_region_ext 12 (by kernel_rfl) (by kernel_rfl) (by kernel_rfl) ?_
        iterate 12
          refine wpE_k (by kernel_rfl) (by kernel_rfl) ?_
          apply Exists.intro
          refine ⟨fun w1 hw1 => ?_, fun K hK => ?_⟩
          · go_simp; first | done | rfl
          go_simp; refine hK _ _ ?_; clear hK K
        refine wpE_nil ⟨rfl, by kernel_rfl, fun w6 hw6 => ?_⟩
        simp only [EndQ, List.drop]
        clear a10 a2
        have HRem := hide ((S5.out.ext hw6).remove HC.out)
        rw [← HCL.out] at HRem
        have X6 := hide hw6
        clear hw6
        go_upto_if 83 with ((with_reducible refine HRem.out.mono ?_); rintro e w7 ⟨rfl, lab7, s7, d7, c7⟩; have S7 := hide s7; have D7 := hide d7; have C7 := hide c7; clear s7 d7 c7)
        have B6 := hide (B5.out.ext X6.out)
        have B7 := hide (C7.out.blk B6.out NB1.out)
        have NB7 := hide (show ¬ lab7.dom bh from fun hd => by
          rcases D7.out _ hd with h9 | h9
          · exact NB1.out h9
          · have := B6.out.lt; omega)
        have CC7 := hide ((C5.out.trans' (Chg.of X6.out)).trans C7.out fun g hg hl => (D1.out g hg).resolve_right (by omega))
        have DD7 := hide (show ∀ b, lab7.dom b → lab.dom b ∨ w.heap.size ≤ b from fun b hb => by
          rcases D7.out b hb with h9 | h9
          · exact D1.out b h9
          · exact .inr (Nat.le_trans C5.out.size (Nat.le_trans X6.out.size h9)))
        clear HRem B5 B6 X6 C7 D7
        rcases Nat.eq_zero_or_pos l with rfl | hl0
        · go_wp2_with fail
          go_roundw
          case rel =>
            refine ⟨1, by omega, by go_num, lab7, _, Dl, S7.out, DD7.out, CC7.out, ⟨K1.out.x, K1.out.width, K1.out.most, K1.out.gs, K1.out.marked, K1.out.uA, K1.out.uC, K1.out.un, K1.out.U⟩, EP.out, ES.out, EF.out, ER.out, EE.out, ?_, ?_, GG1.out, ?_, B7.out, NB7.out⟩
            · have hR := RR1.out
              exact ⟨hR.width, hR.most, hR.gsl, hR.gs, hR.rows, hR.slots, hR.vals, hR.alive, hR.lv, hR.refs, hR.ents, hR.gx⟩
            · obtain ⟨rfl, rfl, rfl⟩ := HL0.out (by first | trivial | rfl)
              have h1 := LL1.out.step0 (P1 ++ P2)
              have h2 : (P1.map fun p : SRow => p.1 * v.L) ++ (P2.map fun p : SRow => p.1 * v.L) = (P1 ++ P2).map fun p : SRow => p.1 * v1.L := by rw [List.map_append, K1.out.L]
              rw [Ql_upd] at h1
              rw [h2]
              exact h1
            · have := HK1.out
              show v1.K ≤ v.K + 3 * 1
              omega
          case measure => simp [intOf]; omega
        · obtain ⟨k, rfl⟩ : ∃ k, l = k + 1 := ⟨l - 1, by omega⟩
          have hkl : k < v.gs.length := by unfold StV.L at hlL; omega
          have hgk : v1.gs[k]? = some v.gs[k] := by rw [K1.out.gs]; exact List.getElem?_eq_getElem hkl
          obtain ⟨hd, rfl, rfl⟩ := HLK.out k _ rfl hgk
          have hgl := (RR1.out.gs _ (List.mem_of_getElem? hgk)).1
          have hARG := HROW.out w7 lab7 _ S7.out ES.out (by rw [show ({ v1 with cont := upd v1.cont nL (grpC v.L k v.gs[k] P1 (keyR v.gs[k] r) ++ grpC v.L k v.gs[k] P2 (keyR v.gs[k] r)) } : StV).P = v1.P from rfl, EP.out]; exact HIN.out)
          have HKey := hide (key_any S7.out hgk (by omega) (by show v1.gs.length ≤ _; have := RR1.out.gsl; omega) c hARG)
          have hkg := gs_good RR1.out hgk (r := r) (by rw [K1.out.width]; exact HRW.out.1) HRW.out.2.1 HRW.out.2.2
          have HShut := hide (fun (A' : Option Addr) (c' : Nat) (w8 : World) (hx : Ext w7 w8) (ho : w8.ownsRow w7.heap.size 43 3 (.slice A' (keyR v.gs[k] r).length c') (keyR v.gs[k] r).length (cellsR (keyR v.gs[k] r))) =>
            shut_lane RR1.out LL1.out (fun i => by rw [GG1.out i]; have := HM2.out i; omega) (by have := HK1.out; omega) hgk (P1 := P1) (P2 := P2) (s := s) (r := r) (n0 := nL) (by rw [Ql_at, HP.out])
              (fun p hp => by rw [K1.out.width]; rw [← HP.out] at hp; exact HAT.out.row.rows p hp) hd (lab := lab7) (w := w8) (by rw [K1.out.L]; exact S7.out.ext hx) c'
              ⟨RowAt.own ho, by rw [hkg.len]; omega, hkg.small, hkg.wf⟩ (fun a ha ⟨j, hj⟩ => by have h1 := own_ge ho a ha; have h2 := S7.out.lt _ _ hj; omega))
          rw [show ({ v1 with cont := upd v1.cont nL (grpC v.L k v.gs[k] P1 (keyR v.gs[k] r) ++ grpC v.L k v.gs[k] P2 (keyR v.gs[k] r)) } : StV).x = v1.x from rfl, K1.out.x] at HKey
          rw [K1.out.x] at HShut
          have hk1 : (((k + 1 : Nat) : Int) - 1) = (k : Int) := by omega
          have HGSL := hide (show wr.heap.size ≤ wr.heap.size from Nat.le_refl _)
          clear hgk hARG hkg hgl hd
          go_wp2_with (first
            | ((with_reducible refine HKey.out.mono ?_); rintro e w8 ⟨A8, c8, rfl, h8, x8⟩; have O8 := hide h8; have X8 := hide x8; clear h8 x8)
            | ((with_reducible refine (HShut.out A8 c8 w8 X8.out O8.out).mono ?_); rintro e w9 ⟨v9, rfl, ⟨lab9, s9, d9, c9⟩, br⟩; have S9 := hide s9; have D9 := hide d9; have C9 := hide c9; have BR := hide br; clear s9 d9 c9 br))
          go_roundw
          case rel =>
            have hB8 := B7.out.ext X8.out
            obtain ⟨Dn, hDn⟩ := BR.out.fin
            rw [Ql_upd] at hDn
            refine ⟨k + 1 + 1, by omega, by go_num, lab9, v9, Dn, S9.out, fun b hb => ?_, (CC7.out.trans' (Chg.of X8.out)).trans C9.out fun g hg hl => (DD7.out g hg).resolve_right (by omega), K1.out.trans BR.out.kept, BR.out.P.trans EP.out, BR.out.sl.trans ES.out, BR.out.fr.trans EF.out, BR.out.refs.trans ER.out, BR.out.E.trans EE.out, BR.out.row, hDn, fun i => (BR.out.gen i).trans (GG1.out i), ?_, C9.out.blk hB8 NB7.out, fun hd => ?_⟩
            · rcases D9.out b hb with h9 | h9
              · exact DD7.out b h9
              · exact .inr (Nat.le_trans CC7.out.size (Nat.le_trans X8.out.size h9))
            · have h1 := BR.out.K
              have h2 := HK1.out
              omega
            · rcases D9.out _ hd with h9 | h9
              · exact NB7.out h9
              · have := hB8.lt; omega
          case measure => simp [intOf]; omega
    · obtain rfl : l = v.L := by omega
      have hin1 : (s, r) ∈ v1.P := by rw [EP.out]; exact HIN.out
      have hARG := hide (HROW.out wr lab1 v1 S1.out ES.out hin1)
      have HPk := hide (fun w6 (h2 : Ext wr w6) => pack_any c (hARG.out.ext h2))
      have a6 : wr.cell? ⟨v.x, 6, none⟩ = some (.pointer (some ⟨v1.xw, 0, none⟩)) := by rw [← K1.out.x]; exact S1.out.str.cell 6
      have hent := hide (RR1.out.ent hin1)
      go_upto_region 14 with fail
      have a6 := cell_ext a6
      clear hin1
      refine wp_region_ext 6 (by kernel_rfl) (by kernel_rfl) (by kernel_rfl) ?_
      iterate 5
        refine wpE_k (by kernel_rfl) (by kernel_rfl) ?_
        apply Exists.intro
        refine ⟨fun w1 hw1 => ?_, fun K hK => ?_⟩
        · go_simp; first | done | rfl
        go_simp; refine hK _ _ ?_; clear hK K
      refine wpE_p [] (fun u w2 => OwnKey w2 (fun b => wr.heap.size ≤ b) u (pk r)) (fun u w2 w3 _ h2 h3 => h3.ext h2) rfl (by kernel_rfl) (fun w9 hw9 => ?_) ?_
      · clear a6
        simp only [LookQ]
        go_simp
        refine ⟨Ext.refl _, (HPk.out w9 hw9).mono fun e w' h => ?_⟩
        obtain ⟨K, rfl, h2, h3⟩ := h
        exact ⟨K, rfl, h3, h2.mono fun b hb => Nat.le_trans hw9.size hb⟩
      refine wpE_nil ⟨rfl, by kernel_rfl, fun w3 hw3 => ?_⟩
      simp only [EndQ]
      intro K hKk
      obtain ⟨A1, n1, c1, rfl, hk1, hk2⟩ := hKk.at_
      simp only [List.drop]
      have S3 := hide (S1.out.ext hw3)
      obtain rfl := hk1.len
      have HDel := hide (S3.out.del_where (by have := HK1.out; omega) c1 hk1 (S1.out.aside (Nat.le_refl _) hk2) (by have := pk_le r; omega) hent.out.1 hent.out.2)
      have E3 := hide hw3
      clear hKk hk1 hk2 a6 hw3 HPk
      go_upto_region 15 with ((with_reducible refine HDel.out.mono ?_); rintro e w4 ⟨rfl, E', hE', lab4, s4, d4, c4⟩; have P4 := hide hE'; have S4 := hide s4; have D4 := hide d4; have C4 := hide c4; clear hE' s4 d4 c4)
      clear HDel
      have a4 : w4.cell? ⟨v.x, 4, none⟩ = some (.pointer (some ⟨v1.xs, 0, none⟩)) := by rw [← K1.out.x]; exact S4.out.str.cell 4
      have a5 : w4.cell? ⟨v.x, 5, none⟩ = some (.map (some v1.rm)) := by rw [← K1.out.x]; exact S4.out.str.cell 5
      have hgn1 : v1.sl[s]? = some (gn, some (.slice A r.length c)) := by rw [ES.out]; exact HGN.out
      have HG1 := hide hgn1
      have hlk : ∀ w3, Ext w4 w3 → (Instr.lookup 71 (.map (some v1.rm)) (.int .i64 (s : Int)) false).run Tryz.prog w3 = .ok (.agg #[.int .i64 s, .int .i64 gn]) w3 := fun w3 h3 => by
        obtain ⟨-, nn, -, hmap⟩ := (S4.out.ext h3).part 3
        have h9 := run_imap 71 132 Tryz.underlying71 (z := .agg #[.int .i64 0, .int .i64 0]) (fun w => zref w) hmap (k := s) (by omega)
        have h8 : v1.refs s = some (.agg #[.int .i64 s, .int .i64 gn]) := by rw [ER.out]; exact HREF.out
        rw [show ({ v1 with E := E', K := v1.K + 1 } : StV).refs s = _ from h8] at h9
        exact h9
      clear hgn1
      have a4 := cell_ext a4; have a5 := cell_ext a5
      refine wp_region_ext 10 (by kernel_rfl) (by kernel_rfl) (by kernel_rfl) ?_
      iterate 10
        refine wpE_k (by kernel_rfl) (by kernel_rfl) ?_
        apply Exists.intro
        refine ⟨fun w1 hw1 => ?_, fun K hK => ?_⟩
        · go_simp; first | done | rfl
        go_simp; refine hK _ _ ?_; clear hK K
      refine wpE_nil ⟨rfl, by kernel_rfl, fun w5 hw5 => ?_⟩
      simp only [EndQ, List.drop]
      clear a4 a5 hlk
      have S5 := hide (S4.out.ext hw5)
      have HGv := hide (S5.out.give_row (i := s) (g := gn) HG1.out (by have := HM1.out s; rw [HGA.out] at this; omega) (P' := P1 ++ P2) (fun j q hj => by
        have hperm : List.Perm v.P ((s, r) :: (P1 ++ P2)) := by rw [HP.out]; exact List.perm_middle
        have hnd := (hperm.map (·.1)).nodup_iff.1 HAT.out.row.slots
        simp only [List.map_cons, List.nodup_cons] at hnd
        refine ⟨?_, fun e => hnd.1 (by rw [← e]; exact List.mem_map.2 ⟨_, hj, rfl⟩)⟩
        show (j, q) ∈ v1.P
        rw [EP.out]
        exact hperm.mem_iff.2 (List.mem_cons_of_mem _ hj)))
      have E5 := hide hw5
      clear hw5
      go_upto_region 16 with ((with_reducible refine HGv.out.mono ?_); rintro e w6 ⟨rfl, lab6, s6, d6, c6⟩; have S6 := hide s6; have D6 := hide d6; have C6 := hide c6; clear s6 d6 c6)
      clear HGv
      have a5 : w6.cell? ⟨v.x, 5, none⟩ = some (.map (some v1.rm)) := by rw [← K1.out.x]; exact S6.out.str.cell 5
      obtain ⟨-, nn, hn1, hmap⟩ := S6.out.part 3
      have HM := hide hmap
      have hnn := hide (show nn ≤ v1.K + 1 from hn1)
      clear hmap hn1
      go_upto_region 17 with (at_delete; refine wpList_imap_del rfl (.tmp 115) (.tmp 116) 71 132 rfl Tryz.underlying71 v1.rm nn v1.refs rfl HM.out s rfl (by omega) ?_; intro w7 M7 T7)
      obtain ⟨lab7, s7, d7, c7⟩ := S6.out.put_ref (n := nn) (by have := hnn.out; show nn ≤ v1.K + 1 + 1; omega) M7.out T7.out
      have S7 := hide s7; have D7 := hide d7; have C7 := hide c7
      clear s7 d7 c7 M7 T7 a5 HM
      go_wp2_with fail
      go_ret
      have B3 := BB1.out.ext E3.out
      have B4 := C4.out.blk B3 NB1.out
      have NB4 : ¬ lab4.dom bh := fun hd => by
        rcases D4.out _ hd with h9 | h9
        · exact NB1.out h9
        · have := B3.lt; omega
      have B5 := B4.ext E5.out
      have B6 := C6.out.blk B5 NB4
      have NB6 : ¬ lab6.dom bh := fun hd => by
        rcases D6.out _ hd with h9 | h9
        · exact NB4 h9
        · have := B5.lt; omega
      have B7 := C7.out.blk B6 NB6
      have NB7 : ¬ lab7.dom bh := fun hd => by
        rcases D7.out _ hd with h9 | h9
        · exact NB6 h9
        · have := B6.lt; omega
      have hlen := hLn.out
      have H4 := step_on (step_pre ⟨D1.out, C1.out⟩ E3.out) ⟨D4.out, C4.out⟩
      have H6 := step_on (step_pre H4 E5.out) ⟨D6.out, C6.out⟩
      have H7 := step_on H6 ⟨D7.out, C7.out⟩
      have hgive := (S1.out.part 2).ok.give HG1.out
      refine ⟨bh, rfl, { v1 with sl := v1.sl.set s (gn, none), fr := v1.fr ++ [s], lv := v1.lv - 1, refs := v1.refs.del s, E := E', P := P1 ++ P2, K := v1.K + 1 + 1 }, ⟨?_, rfl, ?_, ?_, fun i => ?_, fun i => GG1.out i⟩, hbh1.out, ?_, ⟨lab7, S7.out, H7.1, H7.2, NB7⟩, Dl, ?_, ?_, StGen.low (fun i => ?_) fun i => ?_⟩
      · exact ⟨K1.out.x, K1.out.width, K1.out.most, K1.out.gs, K1.out.marked, K1.out.uA, K1.out.uC, K1.out.un, K1.out.U⟩
      · show fsOf v1.most (v1.sl.set s (gn, none)) (v1.fr ++ [s]) = s :: fsOf v.most v.sl v.fr
        rw [hgive.2.1, K1.out.most, ES.out, EF.out]
      · have := HK1.out
        show v1.K + 1 + 1 ≤ v.K + 20
        omega
      · show genA (v1.sl.set s (gn, none)) i = genA v.sl i
        exact gen_give HG1.out ES.out i
      · have hx := B7
        rw [HVALS.out, hlen] at hx
        have hy := NumAt.ofBlk hx (by omega)
        rw [← hlen] at hy
        exact hy
      · exact RR1.out.unlink (P1 := P1) (P2 := P2) (by rw [EP.out]; exact HP.out) HG1.out P4.out _ _
      · exact LL1.out.congrQ fun j hj => if_pos (by rw [← K1.out.L]; unfold StV.L; omega)
      · show genA (v1.sl.set s (gn, none)) i < M
        rw [gen_give HG1.out ES.out i]
        exact HM1.out i
      · show genA v1.sL i < M
        rw [GG1.out i]; exact HM2.out i
end Go.Proofs.YtifloafhpeeepaaGreat
