/-
  store: Len, Has, Put.
  store: rowAt; what is read of a store while it is walked.
-/
import Derived.Test.YtahdiiaadjdmcaaStoQ
import Derived.Laws.EntriesVeiled
import Derived.Test.YtahdiiaadjdmcaaGbD
namespace Go.Proofs.Ytahdiiaadjdmcaa
open Go.RowKit

set_option maxRecDepth 100000 in
theorem len_st {w : World} {lab : Lab} {v : StV} (h : StM w lab v) (hr : StRow v) : Calls Try.prog 15 #[.pointer (some ⟨v.x, 0, none⟩)] w fun e w' => e = .returned (.int .i64 v.P.length) ∧ Ext w w' := by
  have HL := hide (arena_lenR (h.part 2))
  have a4 : w.cell? ⟨v.x, 4, none⟩ = some (.pointer (some ⟨v.xs, 0, none⟩)) := h.str.cell 4
  rw [← hr.lv]
  clear h hr
  go_enter Try.func15, Try.ntmps15
  go_wp2_with ((with_reducible refine HL.out.mono ?_); rintro e w1 ⟨rfl, rfl⟩)
  go_ret
  exact ⟨rfl, Ext.refl _⟩
/-- is the row among them? -/
def inB (rows : List (List V)) (r : List V) : Bool := rows.any fun q => sameR q r
theorem inB_iff {rows : List (List V)} {r : List V} : inB rows r = true ↔ r ∈ rows := by
  unfold inB
  rw [List.any_eq_true]
  exact ⟨fun ⟨q, h1, h2⟩ => sameR_iff.1 h2 ▸ h1, fun h => ⟨r, h, sameR_iff.2 rfl⟩⟩
theorem ArgR.stays {w w' : World} {B : Nat → Prop} {A : Option Addr} {n : Nat} {r : List V} (h : ArgR w A n r) (hA : Aside B A) (hw : Chg B w w') : ArgR w' A n r := h.chg (fun a ha => hA a ha) hw
def SlotSays (v : StV) (r : List V) (o : Option Int) : Prop := (∀ z, o = some z → ∃ s : Nat, z = s ∧ (s, r) ∈ v.P) ∧ (o = none → r ∉ v.P.map (·.2))
/-- a row's slot, in a store -/
theorem slot_st {w : World} {lab : Lab} {v : StV} {D : Nat → List (List V × Nat)} {N : Nat} {P0 : List SRow} {F0 : List Nat} (h : StM w lab v) (ho : StOk v D N P0 F0) (hN : N ≤ 8796093022208) {r : List V} {A : Option Addr} {n : Nat} (c : Nat) (ha : ArgR w A n r) :
    Calls Try.prog 30 #[.pointer (some ⟨v.x, 0, none⟩), .slice A n c] w fun e w' => ∃ o : Option Int, SlotSays v r o ∧ e = .returned (.int .i64 (o.getD (-1))) ∧ StR w lab w' (v.tick 1) := by
  have hK := ho.K
  have hk := kBound_le hN
  refine (slot_any h (by omega) c ha (by have := pk_le r; omega)).mono ?_
  rintro e w' ⟨o, h1, h2, h3⟩
  exact ⟨o, h1.spec ho.row ha.wf, h2, h3⟩
def InSays (S : SAbs) (r : List V) : Option Int → Prop
  | none => inB S.rows r = false
  | some z => inB S.rows r = true ∧ ∃ s : Nat, z = s
theorem slot_inB {S : SAbs} {v : StV} {r : List V} {o : Option Int} (hr : S.rows = v.P.map (·.2)) (h : SlotSays v r o) : InSays S r o := by
  cases o with
  | none =>
    have h1 := h.2 rfl
    rw [← hr] at h1
    show inB S.rows r = false
    cases hb : inB S.rows r with
    | false => rfl
    | true => exact absurd (inB_iff.1 hb) h1
  | some z =>
    obtain ⟨s, e, hm⟩ := h.1 z rfl
    exact ⟨inB_iff.2 (by rw [hr]; exact List.mem_map.2 ⟨_, hm, rfl⟩), s, e⟩
set_option maxRecDepth 100000 in
theorem has_st {w : World} {B : Nat → Prop} {x : Nat} {S : SAbs} {N : Nat} (h : StI w B x S N) (hN : N ≤ 8796093022208) {r : List V} {A : Option Addr} {n : Nat} (c : Nat) (ha : ArgR w A n r) :
    Calls Try.prog 24 #[.pointer (some ⟨x, 0, none⟩), .slice A n c] w fun e w' => e = .returned (.bool (inB S.rows r)) ∧ StS w B x S (N + 1) w' := by
  obtain ⟨lab, v, D, P0, F0, h1, h2, h3, h4⟩ := h
  have HS := hide (slot_st h1 h4 hN c ha)
  rw [h3.x] at HS
  have H2 := hide h2; have H3 := hide h3; have H4 := hide h4
  clear h1 h2 h3 h4 ha
  go_enter Try.func24, Try.ntmps24
  go_wp2_with ((with_reducible refine HS.out.mono ?_); rintro e w2 ⟨o, h12, rfl, h3⟩; have O1 := hide (slot_inB H3.out.rows h12); have S2 := hide h3; clear h12 h3)
  cases o with
  | none =>
    go_ret
    refine ⟨?_, StS.of H2.out S2.out (H3.out.tick 1) (H4.out.tick 1 1 (by omega) (Nat.le_refl _))⟩
    rw [show inB S.rows r = false from O1.out]; rfl
  | some z =>
    obtain ⟨hz, s, rfl⟩ := O1.out
    go_ret
    refine ⟨?_, StS.of H2.out S2.out (H3.out.tick 1) (H4.out.tick 1 1 (by omega) (Nat.le_refl _))⟩
    rw [hz]
    simp
theorem Sl.lt' {w : World} {A : Option Addr} {n size : Nat} {xs : List Value} (h : Sl w A n size xs) (hs : 0 < size) : 0 < n → ∀ a, A = some a → a.block < w.heap.size := fun hn a ha => by
  obtain ⟨b, off, e, hc⟩ := h.2 hn
  rw [e] at ha
  injection ha with ha
  subst ha
  have hl : 0 < xs.length := by rw [h.1]; exact Nat.mul_pos hn hs
  exact World.block_lt_of_cell? w _ (hc 0 xs[0] (List.getElem?_eq_getElem hl))
theorem ArgR.chgS {w w1 w' : World} {C : Nat → Prop} {A : Option Addr} {n : Nat} {r : List V} (h : ArgR w1 A n r) (hl : 0 < n → ∀ a, A = some a → a.block < w.heap.size) (hA : ∀ a, A = some a → a.block < w.heap.size → ¬ C a.block) (hw : Chg C w1 w') : ArgR w' A n r := by
  rcases Nat.eq_zero_or_pos n with rfl | hn
  · refine ⟨⟨h.at_.1, ?_⟩, h.len, h.small, h.wf⟩
    exact ⟨h.at_.2.1, fun h0 => absurd h0 (by omega)⟩
  · exact h.chg (fun a ha => hA a ha (hl hn a ha)) hw
theorem infoFn : (Try.prog.info? 1).map (fun i => (i.zero, i.size, i.bytes)) = some (some .nilFunc, 1, 8) := by kernel_rfl
/-- a Put, plain -/
def putS (S : SAbs) (r : List V) : SAbs × Bool × Int :=
  if fitsR S.width r then if inB S.rows r then (S, false, 0) else if S.rows.length < S.most then ({ S with rows := S.rows ++ [r] }, true, 0) else (S, false, 31) else (S, false, 62)
theorem StGen.mono {sl sL : List (Slt Value)} {N M : Nat} (h : StGen sl sL N) (hN : N ≤ M) : StGen sl sL M := ⟨fun i => Nat.le_trans (h.s i) hN, fun i => Nat.le_trans (h.L i) hN⟩
theorem cl_ok {n N : Nat} (h : n ≤ N) (hN : N ≤ 8796093022208) : n + 1 ≤ maxLen ∧ (n + 1) * 8 ≤ 140737488355328 := by unfold maxLen; omega
/-- a row came, there is no mark -/
theorem StOk.put {v v' : StV} {D D' : Nat → List (List V × Nat)} {N Y s : Nat} {P0 : List SRow} {F0 : List Nat} {r : List V} (h : StOk v D N P0 F0) (hl : Linked (v.tick 1) v' s (v.P ++ [(s, r)])) (ha : StAt v' D' Y) (hy : Y + rsv v.U ≤ gN N) (hm : v.marked = false) : StOk v' D' (N + 1) v'.P (fsOf v'.most v'.sl v'.fr) := by
  have hU : v'.U = v.U := hl.kept.U
  have h0 := h.idle hm
  have hK := hl.K
  have hK1 := h.K
  have hk := kBound_add N (Nat.le_refl 1)
  have hg := gN_mono (Nat.le_add_right N 1)
  have hr := runs_rsv v.U
  rw [show (v.tick 1).K = v.K + 1 from rfl] at hK
  refine ⟨ha.row, ha.lan, ha.gen.mono (by rw [hU]; omega), by rw [hU]; have := h.pu; omega, by rw [hU]; omega, by rw [hU, h0.1]; exact Nat.zero_le _, by rw [hU, h0.1]; exact .nil, fun _ => ⟨hU.trans h0.1, hl.kept.un.trans h0.2.1, hl.kept.uA.trans h0.2.2.1, hl.kept.uC.trans h0.2.2.2⟩⟩
theorem SEq.put {S : SAbs} {x : Nat} {v v' : StV} {P0 : List SRow} {s : Nat} {r : List V} (h : SEq S x v P0) (hl : Linked (v.tick 1) v' s (v.P ++ [(s, r)])) (hm : v.marked = false) : SEq { S with rows := S.rows ++ [r] } x v' v'.P := by
  refine ⟨hl.kept.x.trans h.x, h.width.trans hl.kept.width.symm, h.most.trans hl.kept.most.symm, h.gs.trans hl.kept.gs.symm, ?_, hl.kept.marked.trans h.mark, fun o ho => ?_⟩
  · show S.rows ++ [r] = v'.P.map (·.2)
    rw [hl.P, List.map_append, h.rows]; rfl
  · have h1 := h.mark
    rw [hm] at h1
    have ho' : S.old = some o := ho
    rw [ho'] at h1
    cases h1
/-- a row came behind the mark -/
theorem StOk.putM {v v' : StV} {D D' : Nat → List (List V × Nat)} {N Y s : Nat} {P0 : List SRow} {F0 : List Nat} {r : List V} (h : StOk v D N P0 F0) (hl : Linked (v.tick 1) v' s (v.P ++ [(s, r)])) (ha : StAt v' D' Y) (hy : Y + rsv v.U ≤ gN N) (hm : v.marked = true) {A8 : Option Addr} {c8 : Nat} {u : Value} {A : Option Addr} {n c : Nat} :
    StOk { v' with uA := A8, uC := c8, un := v'.un ++ [u], U := v'.U ++ [.put r A n c] } D' (N + 1) P0 F0 := by
  have hU : v'.U = v.U := hl.kept.U
  have hK := hl.K
  have hK1 := h.K
  have hk := kBound_add N (Nat.le_refl 1)
  have hg := gN_mono (Nat.le_add_right N 1)
  have hps : runs (v'.U ++ [.put r A n c]) = rsv v.U := by rw [hU, runs_put _ rfl]
  rw [show (v.tick 1).K = v.K + 1 from rfl] at hK
  have hr := ha.row
  refine ⟨⟨hr.width, hr.most, hr.gsl, hr.gs, hr.rows, hr.slots, hr.vals, hr.alive, hr.lv, hr.refs, hr.ents, hr.gx⟩, ha.lan, ha.gen.mono ?_, ?_, ?_, ?_, ?_, fun hf => ?_⟩
  · show Y ≤ gN (N + 1) - runs (v'.U ++ [.put r A n c])
    rw [hps]; omega
  · show runs (v'.U ++ [.put r A n c]) ≤ gN (N + 1)
    rw [hps]; omega
  · show v'.K + 64 * (v'.U ++ [Und.put r A n c]).length ≤ kBound (N + 1)
    rw [List.length_append, List.length_singleton, hU]; omega
  · show (v'.U ++ [Und.put r A n c]).length ≤ N + 1
    rw [List.length_append, List.length_singleton, hU]
    have := h.ul; omega
  · show Hist (RowsOk v'.width v'.most) v'.gs P0 F0 (v'.U ++ [.put r A n c]) v'.P (fsOf v'.most v'.sl v'.fr)
    rw [hl.P, hU, show v'.gs = v.gs from hl.kept.gs, show v'.width = v.width from hl.kept.width, show RowsOk v.width v'.most = RowsOk v.width v.most by rw [show v'.most = v.most from hl.kept.most]]
    refine .put ?_
    have h1 := hl.fs
    have h2 := h.hist
    rw [show fsOf (v.tick 1).most (v.tick 1).sl (v.tick 1).fr = fsOf v.most v.sl v.fr from rfl] at h1
    rw [h1] at h2
    exact h2
  · have h1 : v'.marked = false := hf
    rw [show v'.marked = v.marked from hl.kept.marked, hm] at h1
    cases h1
theorem SEq.putM {S : SAbs} {x : Nat} {v v' : StV} {P0 : List SRow} {s : Nat} {r : List V} (h : SEq S x v P0) (hl : Linked (v.tick 1) v' s (v.P ++ [(s, r)])) {A8 : Option Addr} {c8 : Nat} {un : List Value} {U : List Und} :
    SEq { S with rows := S.rows ++ [r] } x { v' with uA := A8, uC := c8, un := un, U := U } P0 := by
  refine ⟨hl.kept.x.trans h.x, h.width.trans hl.kept.width.symm, h.most.trans hl.kept.most.symm, h.gs.trans hl.kept.gs.symm, ?_, hl.kept.marked.trans h.mark, fun o ho => h.old o ho⟩
  show S.rows ++ [r] = v'.P.map (·.2)
  rw [hl.P, List.map_append, h.rows]; rfl
set_option maxRecDepth 100000 in
set_option maxHeartbeats 2000000 in
theorem put_p {w : World} {B : Nat → Prop} {x : Nat} {S : SAbs} {N : Nat} (h : StP w B x S N) (hN : N + 1 ≤ 8796093022208) {r : List V} {A : Option Addr} {n : Nat} (c : Nat) (ha : ArgR w A n r) (hB : Aside B A) :
    Calls Try.prog 73 #[.pointer (some ⟨x, 0, none⟩), .slice A n c] w fun e w' => e = .returned (.tuple #[.bool (putS S r).2.1, .int .i64 (putS S r).2.2]) ∧ StPS w B x (putS S r).1 (N + 1) w' := by
  obtain ⟨lab, v, D, P0, F0, Y, h1, h2, h3, h4, hy⟩ := h
  have HY := hide hy
  have HYT := hide (show StGen (v.tick 1).sl (v.tick 1).sL Y ∧ Y + rsv (v.tick 1).U ≤ gN (N + 1) from ⟨hy.1, Nat.le_trans hy.2 (gN_mono (Nat.le_add_right N 1))⟩)
  clear hy
  have hE1 := Ext.alloc w (.cells #[.pointer (some ⟨x, 0, none⟩)] 65)
  have HM := hide (h1.ext hE1)
  have HA := hide (ha.ext hE1)
  have HF := hide (fits_any (h1.ext hE1) c (ha.ext hE1))
  have HS := hide (fun (w2 : World) (h2 : Ext (w.alloc (.cells #[.pointer (some ⟨x, 0, none⟩)] 65)) w2) => slot_st ((h1.ext hE1).ext h2) h4 (by omega) c ((ha.ext hE1).ext h2))
  have SB := hide (Blk.new w 65 #[.pointer (some ⟨x, 0, none⟩)])
  have HE1 := hide hE1
  have HH := hide h1; have H2 := hide h2; have H3 := hide h3; have H4 := hide h4; have HAS := hide hB; have HA0 := hide ha
  have hfw : fitsR v.width r = fitsR S.width r := by rw [h3.width]
  rw [hfw] at HF
  rw [h3.x] at HF HS
  clear h1 h2 h3 h4 hB ha hE1 hfw
  go_enter Try.func73, Try.ntmps73
  go_upto_region 1 with fail
  generalize w.alloc (.cells #[.pointer (some ⟨x, 0, none⟩)] 65) = w1 at *
  obtain ⟨sb, hsb⟩ : ∃ sb, w.heap.size = sb := ⟨_, rfl⟩
  rw [hsb] at SB ⊢
  have HSB := hide hsb
  clear hsb
  have s0 : w1.cell? ⟨sb, 0, none⟩ = some (.pointer (some ⟨x, 0, none⟩)) := SB.out.cell 0
  cases hf : fitsR S.width r with
  | false =>
    rw [hf] at HF
    have hput : putS S r = (S, false, 62) := by unfold putS; rw [hf]; rfl
    have HP := hide hput
    clear hf hput
    go_wp2_with ((with_reducible refine HF.out.mono ?_); rintro e w2 ⟨rfl, h2⟩; have X2 := hide h2; clear h2)
    go_ret2
    rw [HP.out]
    exact ⟨rfl, StPS.of H2.out ((HM.out.same X2.out 1).pre HE1.out) (H3.out.tick 1) (H4.out.tick 1 1 (by omega) (Nat.le_refl _)) HYT.out⟩
  | true =>
    rw [hf] at HF
    have HFT := hide hf
    clear hf
    go_upto_if 14 with (first
      | ((with_reducible refine HF.out.mono ?_); rintro e w2 ⟨rfl, h2⟩; have X2 := hide h2; have s0 := (SB.out.ext h2).cell 0; clear h2)
      | ((with_reducible refine (HS.out w2 X2.out).mono ?_); rintro e w3 ⟨o, h12, rfl, h3⟩; have O1 := hide (slot_inB H3.out.rows h12); have O2 := hide h12; have S3 := hide h3; clear h12 h3))
    cases o with
    | some z =>
      obtain ⟨hz, s, rfl⟩ := O1.out
      have hs0 : (0 : Int) ≤ (s : Int) := by omega
      have hput : putS S r = (S, false, 0) := by unfold putS; rw [HFT.out, hz]; rfl
      have HP := hide hput
      clear hput hz
      dsimp only [Option.getD]
      go_wp2_with fail
      go_ret2
      rw [HP.out]
      exact ⟨rfl, StPS.of H2.out ((S3.out.pre X2.out).pre HE1.out) (H3.out.tick 1) (H4.out.tick 1 1 (by omega) (Nat.le_refl _)) HYT.out⟩
    | none =>
      have hin := O1.out
      have HIN := hide (show inB S.rows r = false from hin)
      dsimp only [Option.getD]
      obtain ⟨lab3, s3, d3, c3⟩ := S3.out
      have M3 := hide s3; have D3 := hide d3; have C3 := hide c3
      have hsbn : ¬ lab.dom sb := fun ⟨i, hi⟩ => by have := HH.out.lt _ _ hi; have := HSB.out; omega
      have SB3 := hide (c3.blk (SB.out.ext X2.out) hsbn)
      clear s3 d3 c3 S3 hin
      have s0 : w3.cell? ⟨sb, 0, none⟩ = some (.pointer (some ⟨x, 0, none⟩)) := SB3.out.cell 0
      have a1 : w3.cell? ⟨x, 1, none⟩ = some (.int .i64 v.most) := by rw [← H3.out.x]; exact M3.out.str.cell 1
      have a2 : w3.cell? ⟨x, 2, none⟩ = some (.int .i64 (v.L : Int)) := by rw [← H3.out.x]; exact M3.out.str.cell 2
      have hR := hide (show StRow (v.tick 1) from (H4.out.tick 1 1 (by omega) (Nat.le_refl _)).row)
      have HLen := hide (fun (w4 : World) (h4 : Ext w3 w4) => len_st (M3.out.ext h4) hR.out)
      rw [show (v.tick 1).x = v.x from rfl, H3.out.x] at HLen
      rw [show (v.tick 1).P = v.P from rfl] at HLen
      go_upto_region 5 with fail
      have s0' := cell_ext s0; have a1' := cell_ext a1
      clear s0 a1 a2
      refine wp_region_ext 8 (by kernel_rfl) (by kernel_rfl) (by kernel_rfl) ?_
      iterate 1
        refine wpE_k (by kernel_rfl) (by kernel_rfl) ?_
        apply Exists.intro
        refine ⟨fun w1 hw1 => ?_, fun K hK => ?_⟩
        · go_simp; first | done | rfl
        go_simp; refine hK _ _ ?_; clear hK K
      iterate 1
        refine wpE_k (by kernel_rfl) (by kernel_rfl) ?_
        apply Exists.intro
        refine ⟨fun w1 hw1 => ?_, fun K hK => ?_⟩
        · go_simp; first | done | rfl | exact HLen.out _ ‹_›
        go_simp; refine hK _ _ ?_; clear hK K
      iterate 6
        refine wpE_k (by kernel_rfl) (by kernel_rfl) ?_
        apply Exists.intro
        refine ⟨fun w1 hw1 => ?_, fun K hK => ?_⟩
        · go_simp; first | done | rfl
        go_simp; refine hK _ _ ?_; clear hK K
      refine wpE_nil ⟨rfl, by kernel_rfl, fun w4 hw4 => ?_⟩
      simp only [EndQ]
      refine wpList_nil ?_
      clear s0' a1' HLen
      have M4 := hide (M3.out.ext hw4); have SB4 := hide (SB3.out.ext hw4); have X4 := hide hw4
      clear hw4
      have hlm : v.P.length ≤ v.most := by
        have h1 := (HH.out.part 2).ok.live
        have h2 := (HH.out.part 2).ok.len
        have h3 := H4.out.row.lv
        omega
      by_cases hfull : v.P.length = v.most
      · have hb : ((v.P.length : Int) == (v.most : Int)) = true := by simp [hfull]
        have hput : putS S r = (S, false, 31) := by
          unfold putS
          rw [HFT.out, HIN.out, if_neg (show ¬ S.rows.length < S.most by rw [H3.out.rows, H3.out.most, List.length_map]; omega)]; rfl
        have HP := hide hput
        clear hput hlm hfull
        rw [hb]
        go_wp2_with fail
        go_ret2
        rw [HP.out]
        exact ⟨rfl, StPS.of H2.out (((show StR w2 lab w4 (v.tick 1) from ⟨lab3, M4.out, D3.out, C3.out.trans' (Chg.of X4.out)⟩).pre X2.out).pre HE1.out) (H3.out.tick 1) (H4.out.tick 1 1 (by omega) (Nat.le_refl _)) HYT.out⟩
      · have hb : ((v.P.length : Int) == (v.most : Int)) = false := by simp; omega
        have hroom := hide (show v.P.length < v.most by omega)
        rw [hb]
        clear hb hfull hlm
        obtain ⟨i0, hi0, hz0, hz1, hz2⟩ := info_parts infoI
        have hmost := H4.out.row.most
        have hg4 := H4.out.row.gsl
        have hL5 : v.L ≤ 5 := by unfold StV.L; omega
        have hmk := run_make_n (P := Try.prog) 23 3 i0 _ Try.underlying23 hi0 hz0 (by omega) .i64 .i64 v.L (by omega)
        simp only [hz1, Nat.mul_one, Value.cells] at hmk
        have s0 : w4.cell? ⟨sb, 0, none⟩ = some (.pointer (some ⟨x, 0, none⟩)) := SB4.out.cell 0
        have a2 : w4.cell? ⟨x, 2, none⟩ = some (.int .i64 (v.L : Int)) := by rw [← H3.out.x]; exact M4.out.str.cell 2
        obtain ⟨vals, hvals⟩ : ∃ vals, vals = (List.replicate v.L (-1 : Int)).map (Value.int .i64) := ⟨_, rfl⟩
        have hvl : vals.length = v.L := by rw [hvals, List.length_map, List.length_replicate]
        have HVALS := hide hvals; have HVL := hide hvl
        clear hvals hvl hz0 hz1 hz2 hi0 hg4 hmost
        have hL0 : (0 : Int) ≤ (v.L : Int) := by omega
        have HB5 := hide (show Blk (w4.alloc (.cells (madeCells #[.int .i64 0] v.L) 3)) w4.heap.size 3 (fillAt vals (.int .i64 0) 0) by rw [← HVL.out, fillAt_zero]; exact Blk.new _ _ _)
        go_upto_region 8 with fail
        have E5 := hide (Ext.alloc w4 (.cells (madeCells #[.int .i64 0] v.L) 3))
        generalize w4.alloc (.cells (madeCells #[.int .i64 0] v.L) 3) = w5 at *
        have hbe := hide (show ¬ lab3.dom w4.heap.size from fun ⟨j, hj⟩ => by have := M4.out.lt _ _ hj; omega)
        have HSZ := hide (show sb < w4.heap.size ∧ w.heap.size ≤ w4.heap.size from ⟨SB4.out.lt, by have h1 := HE1.out.size; have h2 := X2.out.size; have h3 := C3.out.size; have h4 := X4.out.size; omega⟩)
        generalize w4.heap.size = be at *
        clear hmk s0 a2
        go_wp2_with fail
        have HBF := HB5
        clear HB5
        go_loopw [7, 34] (fun _ s34 w' => ∃ i : Nat, i ≤ v.L ∧ s34 = .int .i64 i ∧ Hid (Blk w' be 3 (fillAt vals (.int .i64 0) i)) ∧ Hid (Chg (fun b => b = be) w5 w')) (fun _ s34 _ => v.L - (intOf s34).toNat)
        case atStart => exact ⟨0, by omega, rfl, HBF, Chg.refl _ _⟩
        case round =>
          obtain ⟨i, hi, rfl, hB, hX⟩ := hrel
          by_cases hiL : i < v.L
          · have e1 : wr.cell? ⟨be, i, none⟩ = some (.int .i64 0) := (hB.out.cell i).trans (fillAt_get _ _ i (by have := HVL.out; omega))
            have e2 : wr.frozen? ⟨be, i, none⟩ = false := hB.out.frozen i
            have hv : vals[i]? = some (.int .i64 (-1)) := by rw [HVALS.out, List.getElem?_map, List.getElem?_replicate, if_pos hiL]; rfl
            have HBn := hide (show Blk (wr.setCell ⟨be, i, none⟩ (.int .i64 (-1))) be 3 (fillAt vals (.int .i64 0) (i + 1)) by
              have h1 := hB.out.set_ i (.int .i64 (-1))
              rw [fillAt_set _ _ i _ hv] at h1
              exact h1)
            have HXn := hide (Chg.setCell (B := fun b => b = be) hX.out (p := ⟨be, i, none⟩) (.inl rfl) (.int .i64 (-1)))
            have hiL2 : (i : Int) < (v.L : Int) := by omega
            clear hv
            go_wp2_with fail
            go_roundw
            case rel => exact ⟨i + 1, by omega, by go_num, HBn, HXn⟩
            case measure => simp [intOf]; omega
          · obtain rfl : i = v.L := by omega
            clear HBF
            have HBE := hide (show ∀ b, lab3.dom b → ¬ b = be from fun b hb e => hbe.out (e ▸ hb))
            have M6 := hide ((M4.out.ext E5.out).chg hX.out HBE.out)
            have hsbe : sb ≠ be := by have := HSZ.out.1; omega
            have SB6 := hide (hX.out.blk (SB4.out.ext E5.out) hsbe)
            have HA3 := HA.out.ext X2.out |>.chg (fun a ha hd => HAS.out a ha (H2.out _ hd)) C3.out
            have HA6 := hide (((HA3.ext X4.out).ext E5.out).chgS (HA0.out.at_.2.lt' (by omega)) (fun a ha hl e => by have := HSZ.out.2; omega) hX.out)
            have HCl := hide (cloneV (cellsR r) A n c wr HA6.out.at_.2 (cellsR_one r) (by have := HA0.out.len; omega))
            have HC6 := hide (show Step w lab wr lab3 from ⟨fun b hb => (D3.out b hb).imp id fun h => by have h1 := HE1.out.size; have h2 := X2.out.size; omega, ((((Chg.of (HE1.out.trans X2.out)).trans' C3.out).trans' (Chg.of (X4.out.trans E5.out))).trans hX.out fun g hg hl => by have := HSZ.out.2; omega)⟩)
            clear HA3 hsbe
            go_upto_region 14 with ((with_reducible refine HCl.out.mono ?_); rintro e w7 ⟨A7, c7, rfl, h7, x7⟩; have O7 := hide h7; have X7 := hide x7; clear h7 x7)
            obtain rfl : n = r.length := HA0.out.at_.len
            have hK8 := hide (Blk.new w7 62 #[.slice A7 r.length c7])
            have hE8 := hide (Ext.alloc w7 (.cells #[.slice A7 r.length c7] 62))
            obtain ⟨w8, hw8⟩ : ∃ w8, w7.alloc (.cells #[.slice A7 r.length c7] 62) = w8 := ⟨_, rfl⟩
            rw [hw8] at hK8 hE8 ⊢
            clear hw8
            have X8 := hide (X7.out.trans hE8.out)
            have hkb := hide (show wr.heap.size ≤ w7.heap.size ∧ w7.heap.size < w8.heap.size from ⟨X7.out.size, hK8.out.lt⟩)
            have O8 := hide (hid_keep O7.out hE8.out)
            have hlt7 := hide (show ∀ a, A7 = some a → a.block < w7.heap.size from fun a ha => (O7.out.lt a.block (by rw [ha]; rfl)).2)
            generalize w7.heap.size = kb at *
            have hadC : ∀ b, (∃ a, A7 = some a ∧ a.block = b) → b < w8.heap.size ∧ ¬ lab3.dom b := by
              rintro b ⟨a, ha, rfl⟩
              have h1 := own_ge O7.out a ha
              refine ⟨?_, fun ⟨j, hj⟩ => by have := M6.out.lt _ _ hj; omega⟩
              have h2 : (Value.slice A7 r.length c7).ownBlock = some a.block := by rw [ha]; rfl
              exact (O8.out.lt _ h2).2
            have M8 := hide ((M6.out.ext X8.out).adopt hadC)
            have hdom8 := hide (show ∀ b, (lab3.with_ 8 (fun b => ∃ a, A7 = some a ∧ a.block = b)).dom b → lab3.dom b ∨ wr.heap.size ≤ b from fun b hb => (Lab.with_dom hb).elim (fun ⟨a, ha, e⟩ => .inr (by rw [← e]; exact own_ge O7.out a ha)) .inl)
            have hRI : RowIn w8 ((lab3.with_ 8 (fun b => ∃ a, A7 = some a ∧ a.block = b)).own 8) A7 r.length r := ⟨RowAt.own O8.out, fun a ha => Lab.with_own ⟨a, ha, rfl⟩⟩
            have hNA : NumAt w8 (some ⟨be, 0, none⟩) v.L (aheads v.gs r []) := by
              have hb := hB.out
              have e : aheads v.gs r [] = List.replicate v.L (-1) := by simp [aheads, ahead0, aheadK, oi, StV.L, List.map_const', List.replicate_succ]
              have e2 : v.L = (List.replicate v.L (-1 : Int)).length := by rw [List.length_replicate]
              rw [e]
              rw [HVALS.out, show (fillAt ((List.replicate v.L (-1 : Int)).map (Value.int .i64)) (.int .i64 0) v.L) = fillAt ((List.replicate v.L (-1 : Int)).map (Value.int .i64)) (.int .i64 0) (List.replicate v.L (-1 : Int)).length by rw [← e2]] at hb
              have h1 := NumAt.ofBlk hb (by rw [← e2]; omega)
              rw [← e2] at h1
              exact (NumAt.own h1).ext X8.out
            have hnbe : ¬ (lab3.with_ 8 (fun b => ∃ a, A7 = some a ∧ a.block = b)).dom be := fun hd => (hdom8.out be hd).elim hbe.out fun h => by have h1 := hB.out.lt; omega
            have hT := H4.out.tick 1 1 (by omega) (Nat.le_refl _)
            have HLink := hide (link_any M8.out (D := D) (N := Y) ⟨hT.row, hT.lan, HY.out.1⟩ (by have h1 := HY.out.2; have h2 := gN_le (N := N) (by omega); omega) (by have h1 := hT.K; have h2 := kBound_le hN; omega) c7 hRI (by show fitsR v.width r = true; rw [← H3.out.width]; exact HFT.out) HA0.out.small HA0.out.wf (O2.out.2 rfl) hroom.out (P1 := v.P) (P2 := []) (List.append_nil _).symm v.L
              (fun w' lab' v' _ _ _ _ _ hc => ⟨hNA.1, hNA.2.chg hc fun a ha => by injection ha with ha; subst ha; exact hnbe⟩))
            rw [show (v.tick 1).x = v.x from rfl, H3.out.x] at HLink
            have SB8 := hide (SB6.out.ext X8.out)
            have hsb8 := hide (show ¬ (lab3.with_ 8 (fun b => ∃ a, A7 = some a ∧ a.block = b)).dom sb ∧ ¬ (lab3.with_ 8 (fun b => ∃ a, A7 = some a ∧ a.block = b)).dom kb from ⟨fun hd => (hdom8.out sb hd).elim (fun h => (D3.out sb h).elim hsbn fun h => by have h1 := SB.out.ext X2.out |>.lt; omega) fun h => by have h1 := SB6.out.lt; omega, fun hd => (Lab.with_dom hd).elim (fun ⟨a, ha, e⟩ => by have := hlt7.out a ha; omega) fun ⟨j, hj⟩ => by have := M6.out.lt _ _ hj; have := hkb.out.1; omega⟩)
            have s0 : w8.cell? ⟨sb, 0, none⟩ = some (.pointer (some ⟨x, 0, none⟩)) := SB8.out.cell 0
            have k0 : w8.cell? ⟨kb, 0, none⟩ = some (.slice A7 r.length c7) := hK8.out.cell 0
            clear hadC hRI hNA hnbe hT HCl
            go_upto_region 15 with ((with_reducible refine HLink.out.mono ?_); rintro e w9 ⟨s, v9, D9, rfl, hl9, ht9, ⟨lab9, m9, d9, c9⟩, a9⟩; have L9 := hide hl9; have T9 := hide ht9; have M9 := hide m9; have D9' := hide d9; have C9 := hide c9; have A9 := hide a9; clear hl9 ht9 m9 d9 c9 a9)
            have hput : putS S r = ({ S with rows := S.rows ++ [r] }, true, 0) := by
              unfold putS
              rw [HFT.out, HIN.out, if_pos (show S.rows.length < S.most by rw [H3.out.rows, H3.out.most, List.length_map]; exact hroom.out)]; rfl
            have HP := hide hput
            have HST := hide (step_on (show Step w lab w8 (lab3.with_ 8 (fun b => ∃ a, A7 = some a ∧ a.block = b)) from ⟨fun b hb => (hdom8.out b hb).elim (HC6.out.1 b) fun h => .inr (Nat.le_trans HC6.out.2.size h), (step_pre HC6.out X8.out).2⟩) ⟨D9'.out, C9.out⟩)
            have SB9 := hide (C9.out.blk SB8.out hsb8.out.1)
            have KB9 := hide (C9.out.blk hK8.out hsb8.out.2)
            have NB9 := hide (show ¬ lab9.dom sb ∧ ¬ lab9.dom kb from ⟨fun hd => (D9'.out _ hd).elim hsb8.out.1 fun h => by have := SB8.out.lt; omega, fun hd => (D9'.out _ hd).elim hsb8.out.2 fun h => by have := hK8.out.lt; omega⟩)
            have hx9 : v9.x = x := L9.out.kept.x.trans H3.out.x
            have s0 : w9.cell? ⟨sb, 0, none⟩ = some (.pointer (some ⟨x, 0, none⟩)) := SB9.out.cell 0
            have a11 : w9.cell? ⟨x, 11, none⟩ = some (.bool v9.marked) := by rw [← hx9]; exact M9.out.str.cell 11
            have HX9 := hide hx9
            have hmk := hide (show v9.marked = v.marked from L9.out.kept.marked)
            clear hput k0 hx9
            cases hm9 : v9.marked with
            | false =>
              rw [hm9] at a11
              have HM9 := hide hm9
              clear hm9
              go_wp2_with fail
              go_ret2
              rw [HP.out]
              exact ⟨rfl, StPS.of H2.out ⟨lab9, M9.out, HST.out.1, HST.out.2⟩ (H3.out.put L9.out (by rw [← hmk.out]; exact HM9.out)) (H4.out.put L9.out A9.out HY.out.2 (by rw [← hmk.out]; exact HM9.out)) ⟨A9.out.gen, by rw [show v9.U = v.U from L9.out.kept.U]; exact HYT.out.2⟩⟩
            | true =>
              rw [hm9] at a11
              have HM9 := hide hm9
              clear hm9
              go_upto_region 16 with fail
              clear a11 s0
              have hmf : ∀ (fn : Fn) (first cap : Array Value) (w : World), (Instr.makeFunc fn first cap).run Try.prog w = .ok (.func fn first cap) w := fun _ _ _ _ => rfl
              have M10 := hide (M9.out.adopt (C := fun b => b = sb ∨ b = kb) (fun b hb => hb.elim (fun e => by rw [e]; exact ⟨SB9.out.lt, NB9.out.1⟩) fun e => by rw [e]; exact ⟨KB9.out.lt, NB9.out.2⟩))
              obtain ⟨hxb, hxin, -, hun⟩ := M10.out.part 0
              have HUN := hide hun; have HXB := hide hxb
              have hlen := (M10.out.part 8).2.1
              have HUL := hide (show v9.un.length ≤ N by rw [← hlen, L9.out.kept.U]; exact H4.out.ul)
              have hz : UndAt w9 ((lab9.with_ 8 (fun b => b = sb ∨ b = kb)).own 8) v9.x (.func (.func 78) #[] #[.pointer (some ⟨sb, 0, none⟩), .pointer (some ⟨kb, 0, none⟩)]) (.put r A7 r.length c7) := by
                refine ⟨sb, kb, rfl, by rw [HX9.out]; exact SB9.out, Lab.with_own (.inl rfl), KB9.out, Lab.with_own (.inr rfl), ?_⟩
                obtain ⟨A', n', c', e1, e2⟩ := (M10.out.part 8).1 s r (by rw [L9.out.P]; simp)
                rw [T9.out] at e1
                obtain ⟨rfl, rfl, rfl⟩ : A7 = A' ∧ r.length = n' ∧ c7 = c' := by injection e1 with e1; injection e1 with e1 e3 e4; exact ⟨e1, e3, e4⟩
                exact e2
              have HZ := hide hz
              clear hxb hxin hun hz hlen
              have s0 : w9.cell? ⟨sb, 0, none⟩ = some (.pointer (some ⟨x, 0, none⟩)) := SB9.out.cell 0
              have a12 : w9.cell? ⟨x, 12, none⟩ = some (.slice v9.uA v9.un.length v9.uC) := by rw [← HX9.out]; exact M9.out.str.cell 12
              have s0 := cell_ext s0
              have a12 := cell_ext a12
              refine wp_region_extz 7 (fun w' => w'.cell? ⟨sb, 0, none⟩ = some (.pointer (some ⟨x, 0, none⟩))) _ rfl ?_ ?_ ?_ ?_ ?_ ?_
              · kernel_rfl
              · kernel_rfl
              · assumption
              · kernel_rfl
              · exact fun _ _ _ _ _ h => h
              refine ⟨_, _, ?_, rfl, ?_⟩; rotate_left
              refine ⟨⟨by kernel_rfl, fun w9 h9 => ?_⟩, fun _ _ _ h => h, fun K hK => ?_⟩
              · go_simp; first | done | rfl
              go_simp; refine hK _ _ ?_; clear hK K
              iterate 5
                refine wpE_k (by kernel_rfl) (by kernel_rfl) ?_
                apply Exists.intro
                refine ⟨fun w1 hw1 => ?_, fun K hK => ?_⟩
                · go_simp; first | done | rfl
                go_simp; refine hK _ _ ?_; clear hK K
              refine wpE_p [] (fun u w1 => ∃ gb, u = .slice (some ⟨gb, 0, none⟩) 1 1 ∧ Blk w1 gb 1 #[.func (.func 78) #[] #[.pointer (some ⟨sb, 0, none⟩), .pointer (some ⟨kb, 0, none⟩)]]) (fun u w1 w2 _ h2 ⟨gb, h3, h4⟩ => ⟨gb, h3, h4.ext h2⟩) rfl (by kernel_rfl) (fun w1 hw1 => ?_) ?_
              · clear a12
                simp only [LookQ]
                go_simp
                exact ⟨Ext.alloc _ _, Blk.new _ _ _⟩
              refine wpE_nil ⟨rfl, by kernel_rfl, fun wa hwa => ?_⟩
              simp only [EndQ]
              rintro _ ⟨gb, rfl, hgb⟩
              simp only [List.drop, List.take, List.dropLast]
              have HS := hide (show Sl wa (some ⟨gb, 0, none⟩) 1 1 [.func (.func 78) #[] #[.pointer (some ⟨sb, 0, none⟩), .pointer (some ⟨kb, 0, none⟩)]] from hgb.sl rfl)
              have HONE := hide (show OneCells [Value.func (.func 78) #[] #[.pointer (some ⟨sb, 0, none⟩), .pointer (some ⟨kb, 0, none⟩)]] from fun v hv => by simp at hv; rw [hv]; rfl)
              have MA := hide (M10.out.ext hwa); have UA := hide (HUN.out.ext hwa); have XA := hide (HXB.out.ext hwa); have ZA := hide (UndAt.chg (C := fun _ => False) (Chg.of hwa) (fun _ _ h => h) HZ.out); have SA := hide (SB9.out.ext hwa); have EA := hide hwa
              clear s0 a12 hgb hwa HUN HXB HZ
              obtain ⟨i0, hi0, hz0, hz1, hz2⟩ := info_parts infoFn
              have hcl := cl_ok (N := N) HUL.out (by omega)
              go_wp2_with (at_builtin; refine wpList_append_b rfl (.tmp 55) (.tmp 57) _ rfl ((lab9.with_ 8 (fun b => b = sb ∨ b = kb)).own 0) 1 i0 _ 1 8 Try.underlying89 hi0 hz0 hz1 hz2 rfl (by omega) (.slice v9.uA v9.un.length v9.uC) v9.un.length v9.un rfl UA.out _ 1 1 _ rfl HS.out HONE.out hcl.1 hcl.2 ?_; intro A8 c8 w8 own8 G8 C8)
              have hx8 := XA.out.grown G8.out (own_ne_blk UA.out.own XA.out (by decide))
              have hs8 := SA.out.grown G8.out (own_ne_blk UA.out.own SA.out (by decide))
              have HPush := hide (MA.out.push ZA.out own8.out G8.out C8.out)
              have HS8 := hide hs8
              have f12 : w8.frozen? ⟨x, 12, none⟩ = false := by rw [← HX9.out]; exact hx8.frozen 12
              have v12 : w8.cell? ⟨x, 12, none⟩ = some (.slice v9.uA v9.un.length v9.uC) := by rw [← HX9.out]; exact hx8.cell 12
              have hne : sb ≠ x := fun e => hsbn ⟨0, by rw [e, ← H3.out.x]; exact (HH.out.part 0).2.1⟩
              have HNE := hide hne
              rw [show (⟨v9.x, 12, none⟩ : Addr) = ⟨x, 12, none⟩ by rw [HX9.out]] at HPush
              simp only [exZ]
              refine ⟨hs8.cell 0, ?_⟩
              clear hx8 hs8 hne XA UA SA ZA own8 G8 C8
              unfold wpZ
              apply Exists.intro
              refine ⟨fun w9 => ?_, fun K hK => ?_⟩
              · go_simp; first | done | rfl
              go_simp; refine hK _ ?_; clear hK K
              unfold wpZ
              apply Exists.intro
              refine ⟨fun w9 => ?_, fun K hK => ?_⟩
              · go_simp; first | done | rfl
              go_simp; refine hK _ ?_; clear hK K
              unfold wpZ
              go_wp2_with fail
              refine ⟨(HS8.out.far (p := ⟨x, 12, none⟩) HNE.out _).cell 0, ?_⟩
              go_wp2_with fail
              go_ret2
              rw [HP.out]
              obtain ⟨labE, mE, dE, cE⟩ := HPush.out
              have hst := step_on (show Step w lab wa (lab9.with_ 8 (fun b => b = sb ∨ b = kb)) from ⟨fun b hb => (Lab.with_dom hb).elim (fun h => .inr (h.elim (fun e => by rw [e, ← HSB.out]; exact Nat.le_refl _) fun e => by rw [e]; exact Nat.le_trans HC6.out.2.size hkb.out.1)) (HST.out.1 b), (step_pre HST.out EA.out).2⟩) ⟨dE, cE⟩
              exact ⟨rfl, StPS.of H2.out ⟨labE, mE, hst.1, hst.2⟩ (H3.out.putM L9.out) (H4.out.putM L9.out A9.out HY.out.2 (HM9.out.symm.trans hmk.out).symm) ⟨A9.out.gen, by rw [show ({ v9 with uA := A8, uC := c8, un := v9.un ++ [Value.func (.func 78) #[] #[.pointer (some ⟨sb, 0, none⟩), .pointer (some ⟨kb, 0, none⟩)]], U := v9.U ++ [.put r A7 r.length c7] } : StV).U = v9.U ++ [.put r A7 r.length c7] from rfl, rsv_put _ rfl, show v9.U = v.U from L9.out.kept.U]; exact HYT.out.2⟩⟩
theorem put_st {w : World} {B : Nat → Prop} {x : Nat} {S : SAbs} {N : Nat} (h : StI w B x S N) (hN : N + 262145 ≤ 8796093022208) {r : List V} {A : Option Addr} {n : Nat} (c : Nat) (ha : ArgR w A n r) (hB : Aside B A) :
    Calls Try.prog 73 #[.pointer (some ⟨x, 0, none⟩), .slice A n c] w fun e w' => e = .returned (.tuple #[.bool (putS S r).2.1, .int .i64 (putS S r).2.2]) ∧ StS w B x (putS S r).1 (N + 262145) w' := by
  refine (put_p h.stp (by omega) c ha hB).mono ?_
  rintro e w' ⟨rfl, hs⟩
  exact ⟨rfl, hs.sts⟩
end Go.Proofs.Ytahdiiaadjdmcaa

namespace Go.Proofs.Ytahdiiaadjdmcaa
open Go.RowKit

/-- what rowAt reads -/
structure RdAt (w : World) (v : StV) : Prop where
  str : Blk w v.x 91 v.cells
  ar : ∃ B, HArR w B v.xs v.most v.sl v.fr v.lv
  map : ∃ n, MapI w v.rm n v.refs
  rows : ∀ i r, (i, r) ∈ v.P → ∃ A n c, thg v.sl i = some (.slice A n c) ∧ RowAt w A n r
theorem StM.rd {w : World} {lab : Lab} {v : StV} (h : StM w lab v) : RdAt w v :=
  ⟨h.str, ⟨_, h.part 2⟩, (h.part 3).2.imp fun _ h => h.2, fun i r hi => by
    obtain ⟨A, n, c, h1, h2⟩ := (h.part 8).1 i r hi
    exact ⟨A, n, c, h1, h2.1⟩⟩
theorem RdAt.ext {w w' : World} {v : StV} (h : RdAt w v) (hw : Ext w w') : RdAt w' v := by
  obtain ⟨B, hB⟩ := h.ar
  exact ⟨h.str.ext hw, ⟨B, hB.chg (C := fun _ => False) (Chg.of hw) (fun _ _ h => h)⟩, h.map.imp fun _ h => h.ext hw, fun i r hi => by
    obtain ⟨A, n, c, h1, h2⟩ := h.rows i r hi
    exact ⟨A, n, c, h1, h2.ext hw⟩⟩
/-- behind a change that keeps off all parts but the lists' -/
theorem StM.rdChg {w w' : World} {lab : Lab} {v : StV} {C : Nat → Prop} (h : StM w lab v) (hw : Chg C w w') (hC : ∀ g, C g → lab.own 7 g ∨ ¬ lab.dom g) : RdAt w' v := by
  have hne : ∀ i, i ≠ 7 → ∀ g, lab.own i g → ¬ C g := fun i hi g hg hc => (hC g hc).elim (fun h7 => hi (by have h1 : some i = some 7 := hg.symm.trans h7; injection h1)) fun hd => hd ⟨i, hg⟩
  have p0 := part_chg hw (hne 0 (by omega)) 0 (h.part 0)
  have p2 := part_chg hw (hne 2 (by omega)) 2 (h.part 2)
  have p3 := part_chg hw (hne 3 (by omega)) 3 (h.part 3)
  have p8 := part_chg hw (hne 8 (by omega)) 8 (h.part 8)
  exact ⟨p0.1, ⟨_, p2⟩, p3.2.imp fun _ h => h.2, fun i r hi => by
    obtain ⟨A, n, c, h1, h2⟩ := p8.1 i r hi
    exact ⟨A, n, c, h1, h2.1⟩⟩
/-- part j is another one behind a change that keeps off all other parts -/
theorem StM.chgTo {w w' : World} {lab : Lab} {v : StV} (h : StM w lab v) (j : Nat) {B' C : Nat → Prop} (hB : ∀ b, B' b → lab.own j b ∨ w.heap.size ≤ b) (hl : ∀ b, B' b → b < w'.heap.size) (hw : Chg C w w') (hC : ∀ g, C g → lab.own j g ∨ ¬ lab.dom g) (hp : Proofs.Ytahdiiaadjdmcaa.part w' B' v j) :
    ∃ lab', StM w' lab' v ∧ ∀ b, lab'.dom b → lab.dom b ∨ (w.heap.size ≤ b ∧ B' b) := by
  have hlt : ∀ b i, lab.grow w.heap.size j B' b = some i → b < w'.heap.size := fun b i hb => by
    unfold Lab.grow at hb
    split at hb
    · have := hw.size; omega
    · split at hb
      · exact hl b (by assumption)
      · cases hb
  refine ⟨lab.grow w.heap.size j B', ⟨hlt, fun i => ?_⟩, fun b hb => ?_⟩
  · by_cases hi : i = j
    · subst hi
      refine part_mono (fun b hb => ?_) (fun b hb => hlt b _ hb) i hp
      show lab.grow w.heap.size i B' b = some i
      unfold Lab.grow
      rcases hB b hb with h1 | h1
      · rw [if_pos (h.lt b _ h1)]; exact h1
      · rw [if_neg (by omega), if_pos hb]
    · have e : ∀ b, lab.own i b → (lab.grow w.heap.size j B').own i b := fun b hb => by
        show lab.grow w.heap.size j B' b = some i
        unfold Lab.grow
        rw [if_pos (h.lt b _ hb)]; exact hb
      exact part_mono e (fun b hb => hlt b _ hb) i (part_chg hw (fun g hg hc => (hC g hc).elim (fun h7 => hi (by
        have h1 : some i = some j := hg.symm.trans h7
        injection h1)) fun hd => hd ⟨i, hg⟩) i (h.part i))
  · obtain ⟨i, hi⟩ := hb
    unfold Lab.grow at hi
    split at hi
    · exact .inl ⟨i, hi⟩
    · split at hi
      · exact .inr ⟨by omega, by assumption⟩
      · cases hi
/-- what a call leaves that tells things in blocks from M on -/
def StRM (w : World) (lab : Lab) (w' : World) (v' : StV) (M : Nat) : Prop := ∃ lab', StM w' lab' v' ∧ (∀ b, lab'.dom b → lab.dom b ∨ w.heap.size ≤ b) ∧ Chg lab.dom w w' ∧ (∀ b, lab'.dom b → b < M) ∧ w.heap.size ≤ M ∧ M ≤ w'.heap.size
set_option maxRecDepth 100000 in
theorem rowAt_any {w : World} {v : StV} (h : RdAt w v) (hr : StRow v) {s l : Nat} {r : List V} (hp : (s, r) ∈ v.P) (hl : l < v.L) :
    Calls Try.prog 32 #[.pointer (some ⟨v.x, 0, none⟩), .int .i64 ((s * v.L + l : Nat) : Int)] w (RetOwn w 59 3 r.length (cellsR r)) := by
  obtain ⟨A, n, c, hth, hrow⟩ := h.rows s r hp
  obtain rfl := hrow.1
  obtain ⟨gn, hgn⟩ := thg_some hth
  have hgA : genA v.sl s = gn := genA_at hgn
  have href := hr.refs _ hp
  dsimp only at href
  rw [hgA] at href
  obtain ⟨B, hB⟩ := h.ar
  have hsm : s < v.most := Nat.lt_of_lt_of_le (thg_lt (by rw [hth]; rfl)) hB.ok.len
  have hmost := hr.most
  have hg4 := hr.gsl
  have hL5 : v.L ≤ 5 := by unfold StV.L; omega
  have hL0 : 0 < v.L := by omega
  have hrl : r.length ≤ 30 := by
    have h1 := (hr.rows _ hp).1
    unfold fitsR at h1
    rw [Bool.and_eq_true, decide_eq_true_eq] at h1
    rw [h1.1]; exact hr.width
  have a4 : w.cell? ⟨v.x, 4, none⟩ = some (.pointer (some ⟨v.xs, 0, none⟩)) := h.str.cell 4
  have a5 : w.cell? ⟨v.x, 5, none⟩ = some (.map (some v.rm)) := h.str.cell 5
  have a2 : w.cell? ⟨v.x, 2, none⟩ = some (.int .i64 (v.L : Int)) := h.str.cell 2
  have hlk : ∀ w3, Ext w w3 → (Instr.lookup 84 (.map (some v.rm)) (.int .i64 (s : Int)) false).run Try.prog w3 = .ok (.agg #[.int .i64 s, .int .i64 gn]) w3 := fun w3 h3 => by
    obtain ⟨nn, hmap⟩ := (h.ext h3).map
    have h9 := run_imap 84 132 Try.underlying84 (z := .agg #[.int .i64 0, .int .i64 0]) (fun w => zref w) hmap (k := s) (by omega)
    rw [href] at h9
    exact h9
  have HAt := hide (fun (w3 : World) (h3 : Ext w w3) => arena_atR (hB.chg (C := fun _ => False) (Chg.of h3) (fun _ _ h => h)) hgn)
  have HCl := hide (fun (w3 : World) (h3 : Ext w w3) => cloneV (cellsR r) A r.length c w3 (hrow.ext h3).2 (cellsR_one r) (by omega))
  have hac : ∃ ca : Nat, Hid (ca = s * v.L + l) ∧ (ca : Int).tdiv (v.L : Int) = (s : Int) := ⟨s * v.L + l, rfl, by
    have h1 : (s * v.L + l) / v.L = s := by rw [Nat.mul_comm, Nat.mul_add_div hL0, Nat.div_eq_of_lt hl, Nat.add_zero]
    rw [Int.tdiv_eq_ediv_of_nonneg (by omega), ← Int.natCast_ediv, h1]⟩
  obtain ⟨ca, HCA, hca⟩ := hac
  rw [← HCA.out]
  have hwa : IntKind.i64.wrap (s : Int) = (s : Int) := IntWalk.i64_in _ (by omega)
  have hL1 : ¬ (v.L : Int) = 0 := by omega
  have hLb : ¬ v.L = 0 := by omega
  clear h hr hB hrow hth hgn href
  go_enter Try.func32, Try.ntmps32
  go_upto_region 1 with fail
  have a4 := cell_ext a4; have a5 := cell_ext a5; have a2 := cell_ext a2
  refine wp_region_ext 21 (by kernel_rfl) (by kernel_rfl) (by kernel_rfl) ?_
  iterate 15
    refine wpE_k (by kernel_rfl) (by kernel_rfl) ?_
    apply Exists.intro
    refine ⟨fun w1 hw1 => ?_, fun K hK => ?_⟩
    · go_simp; first | done | rfl
    go_simp; refine hK _ _ ?_; clear hK K
  iterate 1
    refine wpE_k (by kernel_rfl) (by kernel_rfl) ?_
    apply Exists.intro
    refine ⟨fun w1 hw1 => ?_, fun K hK => ?_⟩
    · go_simp; first | done | rfl | exact HAt.out _ ‹_›
    go_simp; refine hK _ _ ?_; clear hK K
  iterate 5
    refine wpE_k (by kernel_rfl) (by kernel_rfl) ?_
    apply Exists.intro
    refine ⟨fun w1 hw1 => ?_, fun K hK => ?_⟩
    · go_simp; first | done | rfl
    go_simp; refine hK _ _ ?_; clear hK K
  refine wpE_nil ⟨rfl, by kernel_rfl, fun w1 hw1 => ?_⟩
  simp only [EndQ]
  refine wpList_nil ?_
  have X1 := hide hw1
  clear a4 a5 a2 hlk HAt hw1
  go_wp2_with ((with_reducible refine (HCl.out w1 X1.out).mono ?_); rintro e w2 ⟨A2, c2, rfl, h2, x2⟩; have O2 := hide h2; have X2 := hide x2; clear h2 x2)
  go_ret
  exact ⟨A2, c2, rfl, own_base0 O2.out X1.out.size, X1.out.trans X2.out⟩
theorem walk_any (w : World) (x : Nat) (l : Int) :
    Calls Try.prog 31 #[.pointer (some ⟨x, 0, none⟩), .int .i64 l] w fun e w' => ∃ gx gn, e = .returned (.func (.func 43) #[] #[.pointer (some ⟨gx, 0, none⟩), .pointer (some ⟨gn, 0, none⟩)]) ∧ Blk w' gx 88 #[.pointer (some ⟨x, 0, none⟩)] ∧ Blk w' gn 3 #[.int .i64 l] ∧ w.heap.size ≤ gx ∧ w.heap.size ≤ gn ∧ gx ≠ gn ∧ Ext w w' := by
  have hmf : ∀ (fn : Fn) (first cap : Array Value) (w : World), (Instr.makeFunc fn first cap).run Try.prog w = .ok (.func fn first cap) w := fun _ _ _ _ => rfl
  go_enter Try.func31, Try.ntmps31
  go_wp2_with fail
  go_ret
  have hb := Blk.new (w.alloc (.cells #[.pointer (some ⟨x, 0, none⟩)] 88)) 3 #[.int .i64 l]
  rw [World.size_alloc] at hb
  exact ⟨w.heap.size, w.heap.size + 1, rfl, (Blk.new w _ _).ext (Ext.alloc _ _), hb, Nat.le_refl _, by omega, by omega, (Ext.alloc _ _).alloc' _⟩
/-- a list that is none: no round -/
theorem walk1_bad {w : World} (l x gx gn : Nat) (hx : Blk w gx 88 #[.pointer (some ⟨x, 0, none⟩)]) (hgn : Blk w gn 3 #[.int .i64 (-1)]) :
    Calls Try.prog 43 #[.func (.yield l) #[] #[], .pointer (some ⟨gx, 0, none⟩), .pointer (some ⟨gn, 0, none⟩)] w fun e w' => e = .returned (.tuple #[]) ∧ w' = w := by
  have x0 : w.cell? ⟨gx, 0, none⟩ = some (.pointer (some ⟨x, 0, none⟩)) := hx.cell 0
  have x1 : w.cell? ⟨gn, 0, none⟩ = some (.int .i64 (-1)) := hgn.cell 0
  clear hx hgn
  go_enter Try.func43, Try.ntmps43
  go_wp2_with ((with_reducible refine (list_bad w x).mono ?_); rintro e w1 ⟨rfl, rfl⟩)
  refine bodyPost_ret (v := .tuple #[]) (by simp [results, Try.results43, go_sem]) rfl ?_
  exact ⟨rfl, rfl⟩
end Go.Proofs.Ytahdiiaadjdmcaa
