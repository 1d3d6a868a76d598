/-
  store: link: a row is put into all its lists.
-/
import Derived.Test.YtahdiiaadjdmcaaGaK
import Derived.Deep.CutRange
namespace Go.Proofs.Ytahdiiaadjdmcaa
open Go.RowKit

/-- a caller's list of slots stays readable while this store alone is changed -/
def Stays (w : World) (lab : Lab) (v : StV) (H : Option Addr) (m : Nat) (ah : List Int) : Prop :=
  ∀ w' lab' v', StM w' lab' v' → v'.x = v.x → v'.un = v.un → v'.U = v.U → (∀ b, lab'.dom b → lab.dom b ∨ w.heap.size ≤ b) → Chg lab.dom w w' → NumAt w' H m ah
theorem own_ge {w : World} {base : Nat} {e : TypeId} {s n c : Nat} {A : Option Addr} {xs : List Value} (h : w.ownsRow base e s (.slice A n c) n xs) : ∀ a, A = some a → base ≤ a.block := fun a ha => by
  rcases h.2 with ⟨h1, _⟩ | ⟨g, cap, cur, h1, h2, _⟩
  · injection h1 with h1; rw [h1] at ha; cases ha
  · injection h1 with h1
    rw [h1] at ha
    injection ha with ha
    subst ha
    exact h2
/-- what stands in a list is a cell -/
theorem cont_lt {w : World} {B : Nat → Prop} {x cells lists : Nat} {cont : Nat → List Nat} (h : HCh w B x cells lists cont) {n c : Nat} (hc : c ∈ cont n) : c < cells := by
  obtain ⟨LA, cA, LE, cE, at_, en, h1, h2⟩ := h.mem
  exact Nat.lt_of_lt_of_le (h2.lt hc).1 h2.cl
/-- a cell's number -/
theorem wrap_cell (s L l : Nat) (h : s * L + l ≤ 4611686018427387904) : ∃ q cl : Nat, Hid (cl = s * L + l) ∧ IntKind.i64.wrap ((s : Int) * (L : Int)) = (q : Int) ∧ IntKind.i64.wrap ((q : Int) + (l : Int)) = (cl : Int) :=
  ⟨s * L, s * L + l, rfl, by rw [Int.natCast_mul]; exact IntWalk.i64_in _ (by rw [← Int.natCast_mul]; omega), by rw [Int.natCast_add]; exact IntWalk.i64_in _ (by omega)⟩
/-- link's rounds: l lanes are done -/
def LInv (w : World) (lab : Lab) (v : StV) (P' : List SRow) (sl' : List (Slt Value)) (fr' : List Nat) (b0 s g N l : Nat) (w' : World) : Prop :=
  ∃ lab' v' D', StM w' lab' v' ∧ (∀ b, lab'.dom b → lab.dom b ∨ w.heap.size ≤ b) ∧ Chg lab.dom w w' ∧ Kept v v' ∧ v'.P = P' ∧ v'.sl = sl' ∧ v'.fr = fr' ∧ StRow v' ∧ StLan v'.L v'.gs v'.G v'.cont v'.sL v'.lL v'.lrefs D' (Ql v.P P' l) ∧ StGen v'.sl v'.sL N ∧ v'.K ≤ v.K + 2 + 3 * l ∧ Blk w' b0 132 #[.int .i64 s, .int .i64 g] ∧ ¬ lab'.dom b0
/-- what link leaves -/
structure Linked (v v' : StV) (s : Nat) (P' : List SRow) : Prop where
  kept : Kept v v'
  P : v'.P = P'
  fs : fsOf v.most v.sl v.fr = s :: fsOf v'.most v'.sl v'.fr
  K : v'.K ≤ v.K + 20

set_option maxRecDepth 100000 in
set_option maxHeartbeats 2000000 in
theorem link_any {w : World} {lab : Lab} {v : StV} {D : Nat → List (List V × Nat)} {N : Nat} (h : StM w lab v) (hat : StAt v D N) (hN : N < 1073741824) (hK : v.K ≤ 4611686018427380000)
    {r : List V} {A : Option Addr} {n : Nat} (c : Nat) (hrow : RowIn w (lab.own 8) A n r) (hfit : fitsR v.width r = true) (hsm : smallR r) (hwf : wfR r) (hnew : r ∉ v.P.map (·.2)) (hroom : v.P.length < v.most)
    {P1 P2 : List SRow} (hP : v.P = P1 ++ P2) {H : Option Addr} {m : Nat} (d : Nat) (hah : Stays w lab v H m (aheads v.gs r P2)) :
    Calls Try.prog 77 #[.pointer (some ⟨v.x, 0, none⟩), .slice A n c, .slice H m d] w fun e w' => ∃ (s : Nat) (v' : StV) (D' : Nat → List (List V × Nat)), e = .returned (.int .i64 s) ∧ Linked v v' s (P1 ++ (s, r) :: P2) ∧ thg v'.sl s = some (.slice A n c) ∧ StR w lab w' v' ∧ StAt v' D' N := by
  obtain rfl := hrow.1.1
  have hfit2 := hfit
  unfold fitsR at hfit2
  rw [Bool.and_eq_true, decide_eq_true_eq] at hfit2
  have hrl : r.length ≤ 30 := by rw [hfit2.1]; exact hat.row.width
  have HT := hide (h.take_row c hrow (by rw [hat.row.lv]; exact hroom) (hat.gen.lt hN).1 (P' := fun s => P1 ++ (s, r) :: P2) (fun s j q hj => by
    rw [hP]
    simp only [List.mem_append, List.mem_cons, Prod.mk.injEq] at hj ⊢
    rcases hj with hj | ⟨rfl, rfl⟩ | hj
    · exact .inl (.inl hj)
    · exact .inr ⟨rfl, rfl⟩
    · exact .inl (.inr hj)))
  have HH := hide h; have HAT := hide hat; have HR := hide hrow; have HS := hide hah; have HP := hide hP; have HNEW := hide hnew; have HF := hide (And.intro hfit (And.intro hsm hwf))
  have HV := hide hfit2.2
  have a4 : w.cell? ⟨v.x, 4, none⟩ = some (.pointer (some ⟨v.xs, 0, none⟩)) := h.str.cell 4
  have hmost := hat.row.most
  have hg4 := hat.row.gsl
  have hL5 : v.L ≤ 5 := by unfold StV.L; omega
  clear h hat hrow hah hP hnew hfit hfit2 hsm hwf
  go_enter Try.func77, Try.ntmps77
  go_upto_region 2 with ((with_reducible refine HT.out.mono ?_); rintro e w2 ⟨s, sl', fr', h1, rfl, lab2, s2, d2, c2⟩; have T2 := hide h1; have S2 := hide s2; have D2 := hide d2; have C2 := hide c2; clear h1 s2 d2 c2)
  clear HT a4
  have hdead : thg v.sl s = none := by
    have h6 := (HH.out.part 2).ok
    have h7 : s ∈ fsOf v.most v.sl v.fr := by rw [T2.out.fs]; simp
    exact (h6.fs_dead (h6.fs_lt s h7)).1 h7
  have hsm : s < v.most := by
    have h6 := (HH.out.part 2).ok
    exact h6.fs_lt s (by rw [T2.out.fs]; simp)
  have HB := hide (Blk.new w2 132 #[.int .i64 s, .int .i64 ((genA v.sl s : Int) + 1)])
  have HE := hide (Ext.alloc w2 (.cells #[.int .i64 s, .int .i64 ((genA v.sl s : Int) + 1)] 132))
  have S3 := hide (S2.out.ext HE.out)
  have hnb := hide (show ¬ lab2.dom w2.heap.size from fun ⟨j, hj⟩ => by have := S2.out.lt _ _ hj; omega)
  generalize w2.alloc (.cells #[.int .i64 s, .int .i64 ((genA v.sl s : Int) + 1)] 132) = w3 at *
  obtain ⟨b0, hb0⟩ : ∃ b0, w2.heap.size = b0 := ⟨_, rfl⟩
  have hb0n := hide (Nat.le_of_eq hb0)
  rw [hb0] at HB hnb ⊢
  have a5 : w3.cell? ⟨v.x, 5, none⟩ = some (.map (some v.rm)) := S3.out.str.cell 5
  have r0 : w3.cell? ⟨b0, 0, none⟩ = some (.int .i64 s) := HB.out.cell 0
  have r1 : w3.cell? ⟨b0, 1, none⟩ = some (.int .i64 ((genA v.sl s : Int) + 1)) := HB.out.cell 1
  have a5 := cell_ext a5; have r0 := cell_ext r0; have r1 := cell_ext r1
  clear hb0
  refine wp_region_ext 7 (by kernel_rfl) (by kernel_rfl) (by kernel_rfl) ?_
  iterate 7
    refine wpE_k (by kernel_rfl) (by kernel_rfl) ?_
    apply Exists.intro
    refine ⟨fun w1 hw1 => ?_, fun K hK => ?_⟩
    · go_simp; first | done | rfl
    go_simp; refine hK _ _ ?_; clear hK K
  refine wpE_nil ⟨rfl, by kernel_rfl, fun w4 hw4 => ?_⟩
  simp only [EndQ, List.drop]
  clear a5 r0 r1
  have S4 := hide (S3.out.ext hw4)
  have B4 := hide (HB.out.ext hw4)
  have E4 := hide (HE.out.trans hw4)
  obtain ⟨-, nn, hn1, hmap⟩ := S4.out.part 3
  refine wpList_imap_put rfl (.tmp 24) (.tmp 26) (.tmp 27) 84 132 rfl Try.underlying84 v.rm nn v.refs rfl hmap (by have h9 : nn ≤ v.K := hn1; unfold maxLen; omega) s (.agg #[.int .i64 s, .int .i64 ((genA v.sl s : Int) + 1)]) rfl rfl (by omega) ?_
  intro w5 M5 T5
  have SR := S4.out.put_ref (n := nn + 1) (by have h9 : nn ≤ v.K := hn1; show nn + 1 ≤ v.K + 1; omega) M5.out T5.out
  obtain ⟨lab3, s5, d5, c5⟩ := SR
  have S5 := hide s5; have D5 := hide d5; have C5 := hide c5
  have B5 := hide (C5.out.blk B4.out hnb.out)
  have hnb5 := hide (show ¬ lab3.dom b0 from fun hd => by
    rcases D5.out _ hd with h9 | h9
    · exact hnb.out h9
    · have := B4.out.lt; omega)
  clear s5 d5 c5 hmap hw4 M5 T5 hn1 S3
  have HC4 := C2.out.trans' (Chg.of E4.out)
  have HC5 := hide (HC4.trans C5.out fun g hg hl => (D2.out g hg).resolve_right (by omega))
  have HD5 := hide (show ∀ b, lab3.dom b → lab.dom b ∨ w.heap.size ≤ b from fun b hb => by
    rcases D5.out b hb with h9 | h9
    · exact D2.out b h9
    · exact .inr (Nat.le_trans HC4.size h9))
  clear HC4
  have hthg : thg sl' s = some (.slice A r.length c) := by rw [T2.out.th, if_pos rfl]
  have HROW := hide (fun (wx : World) (labx : Lab) (vx : StV) (hx : StM wx labx vx) (h1 : vx.sl = sl') (h2 : (s, r) ∈ vx.P) => show ArgR wx A r.length r from by
    obtain ⟨A', n', c', e1, e2⟩ := (hx.part 8).1 s r h2
    rw [h1, hthg] at e1
    obtain ⟨rfl, rfl, rfl⟩ : A = A' ∧ r.length = n' ∧ c = c' := by injection e1 with e1; injection e1 with e1 e3 e4; exact ⟨e1, e3, e4⟩
    exact ⟨e2.1, by omega, HF.out.2.1, HF.out.2.2⟩)
  have HA5 := hide (HROW.out w5 lab3 _ S5.out rfl (by simp))
  have HPk := hide (fun w6 (h2 : Ext w5 w6) => pack_any c (HA5.out.ext h2))
  go_upto_region 3 with fail
  have a6 : w5.cell? ⟨v.x, 6, none⟩ = some (.pointer (some ⟨v.xw, 0, none⟩)) := S5.out.str.cell 6
  have r0 : w5.cell? ⟨b0, 0, none⟩ = some (.int .i64 s) := B5.out.cell 0
  have a6 := cell_ext a6
  have r0 := cell_ext r0
  clear S4 S2 B4
  refine wp_region_ext 8 (by kernel_rfl) (by kernel_rfl) (by kernel_rfl) ?_
  iterate 5
    refine wpE_k (by kernel_rfl) (by kernel_rfl) ?_
    apply Exists.intro
    refine ⟨fun w1 hw1 => ?_, fun K hK => ?_⟩
    · go_simp; first | done | rfl
    go_simp; refine hK _ _ ?_; clear hK K
  refine wpE_p [] (fun u w2 => OwnKey w2 (fun b => w5.heap.size ≤ b) u (pk r)) (fun u w2 w3 _ h2 h3 => h3.ext h2) rfl (by kernel_rfl) (fun w9 hw9 => ?_) ?_
  · clear a6 r0
    simp only [LookQ]
    go_simp
    refine ⟨Ext.refl _, (HPk.out w9 hw9).mono fun e w' h => ?_⟩
    obtain ⟨K, rfl, h2, h3⟩ := h
    exact ⟨K, rfl, h3, h2.mono fun b hb => Nat.le_trans hw9.size hb⟩
  iterate 2
    refine wpE_k (by kernel_rfl) (by kernel_rfl) ?_
    apply Exists.intro
    refine ⟨fun w1 hw1 => ?_, fun K hK => ?_⟩
    · go_simp; first | done | rfl
    go_simp; refine hK _ _ ?_; clear hK K
  refine wpE_nil ⟨rfl, by kernel_rfl, fun w6 hw6 => ?_⟩
  simp only [EndQ]
  intro K hK1
  obtain ⟨A1, n1, c1, rfl, hk1, hk2⟩ := hK1.at_
  simp only [List.drop]
  have S6 := hide (S5.out.ext hw6)
  have B6 := hide (B5.out.ext hw6)
  obtain rfl := hk1.len
  have HPut := hide (show Calls Try.prog 83 #[.pointer (some ⟨v.xw, 0, none⟩), .slice A1 (pk r).length c1, .int .i64 (s : Int)] w6 (fun e w' => e = .returned (.tuple #[.int .i64 0, .bool false, .int .i64 0]) ∧ StR w6 lab3 w' { v with sl := sl', fr := fr', lv := v.lv + 1, P := P1 ++ (s, r) :: P2, refs := v.refs.put s (.agg #[.int .i64 s, .int .i64 ((genA v.sl s : Int) + 1)]), E := (pk r, (s : Int)) :: v.E, K := v.K + 2 }) from S6.out.put_where (by show v.K + 1 ≤ _; omega) c1 (s : Int) hk1 (S5.out.aside (Nat.le_refl _) hk2) (pk_le r) (HAT.out.row.noEnt HV.out HF.out.2.2 HNEW.out) (by show v.E.length < v.most; rw [HAT.out.row.ents.length_eq, List.length_map]; exact hroom))
  have E6 := hide hw6
  clear hK1 hk1 hk2 a6 r0 hw6 HPk
  go_upto_region 4 with ((with_reducible refine HPut.out.mono ?_); rintro e w7 ⟨rfl, lab4, s7, d7, c7⟩; have S7 := hide s7; have D7 := hide d7; have C7 := hide c7; clear s7 d7 c7)
  clear HPut
  have HC6 := HC5.out.trans' (Chg.of E6.out)
  have HINV := hide (show LInv w lab v (P1 ++ (s, r) :: P2) sl' fr' b0 s (genA v.sl s + 1) N 0 w7 from by
    refine ⟨lab4, _, D, S7.out, fun b hb => ?_, HC6.trans C7.out fun g hg hl => (HD5.out g hg).resolve_right (by omega), ⟨rfl, rfl, rfl, rfl, rfl, rfl, rfl, rfl, rfl⟩, rfl, rfl, rfl, HAT.out.row.link HP.out T2.out hdead HF.out.1 HF.out.2.1 HF.out.2.2 HNEW.out _, ?_, HAT.out.gen.tookR T2.out hdead, by show v.K + 2 ≤ _; omega, C7.out.blk B6.out hnb5.out, fun hd => ?_⟩
    · rcases D7.out b hb with h9 | h9
      · exact HD5.out b h9
      · exact .inr (Nat.le_trans HC6.size h9)
    · rw [Ql_zero]; exact HAT.out.lan
    · rcases D7.out _ hd with h9 | h9
      · exact hnb5.out h9
      · have := B6.out.lt; omega)
  have HFS := hide T2.out.fs
  have a2 : w7.cell? ⟨v.x, 2, none⟩ = some (.int .i64 (v.L : Int)) := S7.out.str.cell 2
  clear HC6 HC5 HD5 S7 D7 C7 S6 S5 D5 C5 D2 C2 HA5 HB HE B5 B6 hnb hnb5 E4 E6 T2
  have hL0 : (0 : Int) ≤ (v.L : Int) := by omega
  go_wp2_with fail
  go_loopw [9, 10, 11, 41] (fun _ _ _ s41 w' => ∃ l : Nat, l ≤ v.L ∧ s41 = .int .i64 l ∧ Hid (LInv w lab v (P1 ++ (s, r) :: P2) sl' fr' b0 s (genA v.sl s + 1) N l w')) (fun _ _ _ s41 _ => v.L - (intOf s41).toNat)
  case atStart => exact ⟨0, by omega, rfl, HINV⟩
  case round =>
    obtain ⟨l, hlm, rfl, hI⟩ := hrel
    obtain ⟨lab1, v1, Dl, s1, d1, c1, k1, eP, esl, efr, R1, L1, G1, hK1, B1, hnb1⟩ := hI.out
    have a2 : wr.cell? ⟨v.x, 2, none⟩ = some (.int .i64 (v.L : Int)) := by rw [← k1.x, ← k1.L]; exact s1.str.cell 2
    have r0 : wr.cell? ⟨b0, 0, none⟩ = some (.int .i64 s) := B1.cell 0
    have S1 := hide s1; have D1 := hide d1; have C1 := hide c1; have K1 := hide k1; have EP := hide eP; have ES := hide esl; have EF := hide efr; have RR1 := hide R1; have LL1 := hide L1; have GG1 := hide G1; have HK1 := hide hK1; have BB1 := hide B1; have NB1 := hide hnb1
    clear s1 d1 c1 k1 eP esl efr R1 L1 G1 hK1 B1 hnb1 hI
    by_cases hlL : l < v.L
    · have hsP : ∀ p ∈ P1 ++ P2, p.1 ≠ s := fun p hp e => by
        have h1 : s ∈ v.P.map (·.1) := List.mem_map.2 ⟨p, by rw [HP.out]; exact hp, e⟩
        have h2 := (HAT.out.row.alive s).2 h1
        rw [hdead] at h2; cases h2
      have HsP := hide hsP
      obtain ⟨o, ho1, ho2, ho3⟩ := aheads_at v.gs r P2 v.L l (by unfold StV.L at hlL; omega)
      have HO := hide ho1; have HO2 := hide ho2; have HO3 := hide ho3
      clear hsP ho1 ho2 ho3
      go_upto_if 45 with fail
      go_cut [10] from 42 to 98 (fun s10 wx => ∃ (nL : Nat) (lab2 : Lab) (v2 : StV) (E1 E2 : List Nat), s10 = .int .i64 nL ∧ Hid (StM wx lab2 v2) ∧ Hid (∀ b, lab2.dom b → lab.dom b ∨ w.heap.size ≤ b) ∧ Hid (Chg lab.dom w wx) ∧ Hid (Blk wx b0 132 #[.int .i64 s, .int .i64 ((genA v.sl s + 1 : Nat) : Int)]) ∧ Hid (¬ lab2.dom b0) ∧ Hid (Bridge v1 v2 (Ql v.P (P1 ++ (s, r) :: P2) (l + 1)) nL E1 E2 (s * v.L + l) N) ∧ Hid (E2.head? = o.map fun s => s * v.L + l))
      case first =>
        rcases Nat.eq_zero_or_pos l with rfl | hl0
        · go_wp2_with fail
          go_meet
          refine ⟨0, lab1, v1, P1.map fun p : SRow => p.1 * v.L, P2.map fun p : SRow => p.1 * v.L, rfl, S1, D1, C1, BB1, NB1, ?_, hide (HO2.out (by first | trivial | rfl))⟩
          have h1 := bridge0 RR1.out LL1.out GG1.out r (by rw [Ql_at, HP.out]) HsP.out
          rw [K1.out.L, Ql_upd] at h1
          exact h1
        · obtain ⟨k, rfl⟩ : ∃ k, l = k + 1 := ⟨l - 1, by omega⟩
          have hkl : k < v.gs.length := by unfold StV.L at hlL; omega
          have hgk : v1.gs[k]? = some v.gs[k] := by rw [K1.out.gs]; exact List.getElem?_eq_getElem hkl
          have hgl := (RR1.out.gs _ (List.mem_of_getElem? hgk)).1
          have hARG := HROW.out wr lab1 v1 S1.out ES.out (by rw [EP.out]; simp)
          have HKey := hide (key_any S1.out hgk (by omega) (by have := RR1.out.gsl; omega) c hARG)
          have hkg := gs_good RR1.out hgk (r := r) (by rw [K1.out.width]; exact HF.out.1) HF.out.2.1 HF.out.2.2
          have hmono : v1.most = v.most := K1.out.most
          have HOpen := hide (fun (A' : Option Addr) (c' : Nat) (w1 : World) (hx : Ext wr w1) (ho : w1.ownsRow wr.heap.size 59 3 (.slice A' (keyR v.gs[k] r).length c') (keyR v.gs[k] r).length (cellsR (keyR v.gs[k] r))) =>
            open_lane (S1.out.ext hx) RR1.out LL1.out GG1.out hN (by have := HK1.out; omega) hgk (P1 := P1) (P2 := P2) (s := s) (r := r) (by rw [Ql_at, HP.out])
              (fun l => by
                unfold Ql
                split
                · rw [hmono]; have h1 := hroom; rw [HP.out] at h1; simp only [List.length_append, List.length_cons] at h1 ⊢; omega
                · rw [hmono]; omega)
              (by rw [hmono, ← HP.out]; exact hroom) (fun p hp => by rw [K1.out.width]; rw [← HP.out] at hp; exact HAT.out.row.rows p hp) (by rw [K1.out.width]; exact HF.out.1) HF.out.2.1 HF.out.2.2 HsP.out c'
              ⟨RowAt.own ho, by rw [hkg.len]; omega, hkg.small, hkg.wf⟩ (fun a ha ⟨j, hj⟩ => by have h1 := own_ge ho a ha; have h2 := S1.out.lt _ _ hj; omega))
          rw [K1.out.x] at HKey HOpen
          rw [K1.out.L] at HOpen
          have hk1 : (((k + 1 : Nat) : Int) - 1) = (k : Int) := by omega
          clear hgk hARG hkg hmono hgl
          go_wp2_with (first
            | ((with_reducible refine HKey.out.mono ?_); rintro e w4 ⟨A4, c4, rfl, h4, x4⟩; have O4 := hide h4; have X4 := hide x4; clear h4 x4)
            | ((with_reducible refine (HOpen.out A4 c4 w4 X4.out O4.out).mono ?_); rintro e w5 ⟨nL, v2, rfl, ⟨lab2, s5, d5, c5⟩, br⟩; have S5 := hide s5; have D5 := hide d5; have C5 := hide c5; have BR := hide br; clear s5 d5 c5 br))
          go_meet
          have hB4 := BB1.out.ext X4.out
          refine ⟨nL, lab2, v2, _, _, rfl, S5, fun b hb => ?_, (C1.out.trans' (Chg.of X4.out)).trans C5.out fun g hg hl => (D1.out g hg).resolve_right (by omega), C5.out.blk hB4 NB1.out, fun hd => ?_, (by rw [← Ql_upd]; exact BR.out), HO3.out k _ rfl (List.getElem?_eq_getElem hkl)⟩
          · rcases D5.out b hb with h9 | h9
            · exact D1.out b h9
            · exact .inr (Nat.le_trans C1.out.size (Nat.le_trans X4.out.size h9))
          · rcases D5.out _ hd with h9 | h9
            · exact NB1.out h9
            · have := hB4.lt; omega
      case rest =>
        obtain ⟨nL, lab2, v2, E1, E2, rfl, S2, D2, C2, B2, NB2, BR, HH2⟩ := hcut
        have K2 := hide (K1.out.trans BR.out.kept)
        have HNum := HS.out wc lab2 v2 S2.out K2.out.x K2.out.un K2.out.U D2.out C2.out
        have hml : m = v.L := by rw [HNum.len]; simp [aheads, StV.L]
        obtain ⟨hb, hoff, ax, rfl, hx, -, hcell⟩ := HNum.get (i := l) (by omega)
        obtain rfl : oi o = ax := Option.some.inj (HO.out.symm.trans hx)
        have hlm2 : (l : Int) < (m : Int) := by omega
        have a10 : wc.cell? ⟨v.x, 10, none⟩ = some (.pointer (some ⟨v2.xo, 0, none⟩)) := by rw [← K2.out.x]; exact S2.out.str.cell 10
        have a2 : wc.cell? ⟨v.x, 2, none⟩ = some (.int .i64 (v.L : Int)) := by rw [← K2.out.x, ← K2.out.L]; exact S2.out.str.cell 2
        have r0 : wc.cell? ⟨b0, 0, none⟩ = some (.int .i64 s) := B2.out.cell 0
        have hsL : s * v.L + l < v.most * v.L := by
          have h1 : s * v.L + v.L ≤ v.most * v.L := by rw [← Nat.succ_mul]; exact Nat.mul_le_mul_right _ hsm
          omega
        have hmL : v.most * v.L ≤ 327680 := Nat.le_trans (Nat.mul_le_mul hmost.2 hL5) (by omega)
        obtain ⟨q1, cl, HCL, hwl1, hwl2⟩ := wrap_cell s v.L l (by omega)
        have HKEEP := hide (fun (w8 w9 : World) (lab9 : Lab) (hx : Ext wc w8) (s9 : StM w9 lab9 { v2 with cont := upd v2.cont nL (E1 ++ (s * v.L + l) :: E2) }) (d9 : ∀ b, lab9.dom b → lab2.dom b ∨ w8.heap.size ≤ b) (c9 : Chg lab2.dom w8 w9) => show LInv w lab v (P1 ++ (s, r) :: P2) sl' fr' b0 s (genA v.sl s + 1) N (l + 1) w9 from by
          obtain ⟨D', hD'⟩ := BR.out.fin
          have hR := BR.out.row
          have hk3 := BR.out.K
          have hk4 := HK1.out
          refine ⟨lab9, _, D', s9, fun b hb => ?_, (C2.out.trans' (Chg.of hx)).trans c9 fun g hg hl => (D2.out g hg).resolve_right (by omega), ⟨K2.out.x, K2.out.width, K2.out.most, K2.out.gs, K2.out.marked, K2.out.uA, K2.out.uC, K2.out.un, K2.out.U⟩, BR.out.P.trans EP.out, BR.out.sl.trans ES.out, BR.out.fr.trans EF.out, ⟨hR.width, hR.most, hR.gsl, hR.gs, hR.rows, hR.slots, hR.vals, hR.alive, hR.lv, hR.refs, hR.ents, hR.gx⟩, hD', BR.out.gen, by show v2.K ≤ v.K + 2 + 3 * (l + 1); omega, c9.blk (B2.out.ext hx) NB2.out, fun hd => ?_⟩
          · rcases d9 b hb with h9 | h9
            · exact D2.out b h9
            · exact .inr (Nat.le_trans C2.out.size (Nat.le_trans hx.size h9))
          · rcases d9 _ hd with h9 | h9
            · exact NB2.out h9
            · have := (B2.out.ext hx).lt; omega)
        have hnb2 : nL < v2.most * v2.L + 1 := by rw [BR.out.kept.most, BR.out.kept.L]; exact BR.out.nb
        have hc2 : s * v.L + l < v2.most * v2.L := by rw [K2.out.most, K2.out.L]; exact hsL
        have HNB := hide hnb2; have HC := hide hc2
        clear hx HNum hnb2 hc2 hsL hml
        cases o with
        | none =>
          obtain rfl : E2 = [] := by have h1 := HH2.out; cases E2 with
            | nil => rfl
            | cons a b => cases h1
          simp only [oi] at hcell
          go_upto_region 13 with fail
          have a10 := cell_ext a10; have a2 := cell_ext a2; have r0 := cell_ext r0
          clear hcell
          refine wp_region_ext 14 (by kernel_rfl) (by kernel_rfl) (by kernel_rfl) ?_
          iterate 14
            refine wpE_k (by kernel_rfl) (by kernel_rfl) ?_
            apply Exists.intro
            refine ⟨fun w1 hw1 => ?_, fun K hK => ?_⟩
            · go_simp; first | done | rfl
            go_simp; refine hK _ _ ?_; clear hK K
          refine wpE_nil ⟨rfl, by kernel_rfl, fun w8 hw8 => ?_⟩
          simp only [EndQ, List.drop]
          clear a10 a2 r0
          have HApp := hide ((S2.out.ext hw8).append HNB.out HC.out BR.out.fresh)
          rw [BR.out.cont, List.append_nil, ← HCL.out] at HApp
          go_wp2_with ((with_reducible refine HApp.out.mono ?_); rintro e w9 ⟨rfl, lab9, s9, d9, c9⟩; have HL := hide (HKEEP.out w8 w9 lab9 hw8 (by rw [← HCL.out]; exact s9) d9 c9); clear s9 d9 c9)
          go_roundw
          case rel => exact ⟨l + 1, by omega, by go_num, HL⟩
          case measure => simp [intOf]; omega
        | some a =>
          obtain ⟨E3, rfl⟩ : ∃ E3, E2 = (a * v.L + l) :: E3 := by
            have h1 := HH2.out
            cases E2 with
            | nil => cases h1
            | cons x y =>
              simp only [List.head?_cons, Option.map_some, Option.some.injEq] at h1
              exact ⟨y, by rw [h1]⟩
          have ha0 : (0 : Int) ≤ (a : Int) := by omega
          simp only [oi] at hcell
          have haL : a * v.L + l < v.most * v.L := by
            have h1 : (a * v.L + l) ∈ v2.cont nL := by rw [BR.out.cont]; simp
            have h2 := cont_lt (S2.out.part 7) h1
            rw [K2.out.most, K2.out.L] at h2
            exact h2
          obtain ⟨q2, ca, HCA, hwa1, hwa2⟩ := wrap_cell a v.L l (by omega)
          clear haL
          go_upto_region 12 with fail
          have a10 := cell_ext a10; have a2 := cell_ext a2; have r0 := cell_ext r0
          clear hcell
          refine wp_region_ext 21 (by kernel_rfl) (by kernel_rfl) (by kernel_rfl) ?_
          iterate 21
            refine wpE_k (by kernel_rfl) (by kernel_rfl) ?_
            apply Exists.intro
            refine ⟨fun w1 hw1 => ?_, fun K hK => ?_⟩
            · go_simp; first | done | rfl
            go_simp; refine hK _ _ ?_; clear hK K
          refine wpE_nil ⟨rfl, by kernel_rfl, fun w8 hw8 => ?_⟩
          simp only [EndQ, List.drop]
          clear a10 a2 r0
          have HBef := hide ((S2.out.ext hw8).before BR.out.cont HC.out BR.out.fresh)
          rw [← HCL.out, ← HCA.out] at HBef
          go_wp2_with ((with_reducible refine HBef.out.mono ?_); rintro e w9 ⟨rfl, lab9, s9, d9, c9⟩; have HL := hide (HKEEP.out w8 w9 lab9 hw8 (by rw [← HCL.out, ← HCA.out]; exact s9) d9 c9); clear s9 d9 c9)
          go_roundw
          case rel => exact ⟨l + 1, by omega, by go_num, HL⟩
          case measure => simp [intOf]; omega
    · obtain rfl : l = v.L := by omega
      go_wp2_with fail
      go_ret
      refine ⟨s, v1, Dl, rfl, ⟨K1.out, EP.out, ?_, ?_⟩, by rw [ES.out]; exact hthg, ⟨lab1, S1.out, D1.out, C1.out⟩, RR1.out, ?_, GG1.out⟩
      · rw [K1.out.most, ES.out, EF.out]; exact HFS.out
      · have := HK1.out; omega
      · refine LL1.out.congrQ fun j hj => ?_
        rw [EP.out]
        exact if_pos (by rw [← K1.out.L]; unfold StV.L; omega)
end Go.Proofs.Ytahdiiaadjdmcaa
