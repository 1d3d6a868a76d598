/-
  chain: Walk's iterator.
  chain: Remove.
-/
import Derived.Test.YtahdiiaadjdmcaaGaC
import Derived.Test.YtahdiiaadjdmcaaGaD
import Derived.TacticsInMore
import Derived.RangeFuncBox
namespace Go.Proofs.Ytahdiiaadjdmcaa
open Go.RowKit

theorem nextOf_get : ∀ {L : List Nat} {i c : Nat}, L.Nodup → L[i]? = some c → nextOf L c = L[i + 1]?
  | [], _, _, _, h => by simp at h
  | [a], 0, c, _, _ => by simp [nextOf]
  | [a], i + 1, c, _, h => by simp at h
  | a :: b :: l, 0, c, _, h => by
    simp only [List.getElem?_cons_zero, Option.some.injEq] at h
    subst h
    simp [nextOf]
  | a :: b :: l, i + 1, c, hnd, h => by
    simp only [List.getElem?_cons_succ] at h
    have hne : a ≠ c := fun e => by
      subst e
      exact (List.nodup_cons.1 hnd).1 (List.mem_of_getElem? h)
    simp only [nextOf]
    rw [if_neg hne, nextOf_get (List.nodup_cons.1 hnd).2 h]
    simp
def lenV : Value → Nat
  | .slice _ n _ => n
  | _ => 0
theorem OwnH.fq {S B : Nat → Prop} {base : Nat} {w w' : World} {e : TypeId} {s n : Nat} {v : Value} {xs : List Value} (h : OwnH w B e s n v xs) (k : Fq S base w w') (hS : ∀ g, B g → ¬ S g) (he : e ≠ 62) : OwnH w' B e s n v xs :=
  ⟨own_fq h.own k (fun g hg => hS g (h.inB g hg)) he, h.inB⟩
theorem HCh.fq {S B : Nat → Prop} {base : Nat} {w w' : World} {x cells lists : Nat} {cont : Nat → List Nat} (h : HCh w B x cells lists cont) (k : Fq S base w w') (hS : ∀ g, B g → ¬ S g) : HCh w' B x cells lists cont := by
  obtain ⟨LA, cA, LE, cE, at_, en, h1, h2⟩ := h.mem
  exact ⟨⟨LA, cA, LE, cE, at_, en, ⟨h1.blk.fq k (hS x h1.inB) (.inr (by decide)), h1.oA.fq k hS (by decide), h1.oE.fq k hS (by decide), h1.inB⟩, h2⟩, fun b hb => Nat.lt_of_lt_of_le (h.lt b hb) k.size, h.cm, h.lm⟩

set_option maxRecDepth 100000 in
set_option maxHeartbeats 2000000 in
theorem walk1_any {w : World} {B SY : Nat → Prop} {x cells lists : Nat} {cont : Nat → List Nat} (h : HCh w B x cells lists cont) {n : Nat} (hn : n < lists) (l gx gn : Nat) (hx : Blk w gx 88 #[.pointer (some ⟨x, 0, none⟩)]) (hgn : Blk w gn 3 #[.int .i64 n]) (hxB : ¬ B gx ∧ ¬ B gn)
    (hSY : ∀ g, SY g → g < w.heap.size ∧ ¬ B g) (J : Nat → Nat → World → Prop) (hJ0 : ∀ M w1, w.heap.size ≤ M → M ≤ w1.heap.size → Chg B w w1 → J M 0 w1)
    (hY : ∀ (M i c : Nat) (w1 : World), w.heap.size ≤ M → M ≤ w1.heap.size → (cont n)[i]? = some c → J M i w1 → Fq (fun g => B g ∨ SY g) w.heap.size w w1 → (∃ B', HCh w1 B' x cells lists cont ∧ ∀ b, B' b → (B b ∨ w.heap.size ≤ b) ∧ b < M) → ∃ fn tmps assign body, (Instr.yield l #[.int .i64 c]).run Try.prog w1 = .ok (.round l fn tmps assign body) w1 ∧
      RoundIn Fence.wide 0 Try.prog l fn tmps assign body w1 fun e w' => Fq SY w.heap.size w1 w' ∧ e = .returned (.bool true) ∧ J M (i + 1) w') :
    Calls Try.prog 43 #[.func (.yield l) #[] #[], .pointer (some ⟨gx, 0, none⟩), .pointer (some ⟨gn, 0, none⟩)] w fun e w' => ∃ M, e = .returned (.tuple #[]) ∧ w.heap.size ≤ M ∧ M ≤ w'.heap.size ∧ J M (cont n).length w' ∧ Fq (fun g => B g ∨ SY g) w.heap.size w w' ∧ ∃ B', HCh w' B' x cells lists cont ∧ ∀ b, B' b → (B b ∨ w.heap.size ≤ b) ∧ b < M := by
  obtain ⟨LA, cA, LE, cE, at_, en, h1, h2⟩ := h.mem
  have HL := hide (list_any h1 h.lt h2 hn h.lm)
  have hcm := h.cm; have hlm := h.lm
  have x0 : w.cell? ⟨gx, 0, none⟩ = some (.pointer (some ⟨x, 0, none⟩)) := hx.cell 0
  have x1 : w.cell? ⟨gn, 0, none⟩ = some (.int .i64 n) := hgn.cell 0
  have HX := hide hx; have HXB := hide hxB; have HSY := hide hSY; have HJ0 := hide hJ0; have HY := hide hY
  clear hY hJ0 hSY hxB hgn hx h h1 h2
  obtain ⟨i0, hi0, hz0, hz1, hz2⟩ := info_parts infoI
  go_enter Try.func43, Try.ntmps43
  go_upto_region 2 with ((with_reducible refine HL.out.mono ?_); rintro e w1 ⟨g, cE', en', rfl, hG1, hn1⟩; have HG1 := hide hG1; clear hG1)
  clear HL
  obtain ⟨B1, m1, m2, m3⟩ := HG1.out.mem
  obtain ⟨g2, eg, -, -, -, e0, -, e2, -⟩ := m1.end_ (List.getElem?_eq_getElem hn1)
  obtain rfl : g = g2 := (by injection eg with eg; injection eg)
  rw [HG1.out.ok.ends n _ (List.getElem?_eq_getElem hn1)] at e0 e2
  dsimp only at e0 e2
  have hcl2 : (cont n).length ≤ 1048576 := by
    have hb : ∀ y ∈ cont n, y < at_.length := fun y hy => (HG1.out.ok.lt hy).1
    have h9 := nodup_lt _ _ (HG1.out.ok.nd n) hb
    have := HG1.out.ok.cl
    omega
  have hh0 : (cont n).head? = (cont n)[0]? := by cases cont n <;> rfl
  rw [hh0] at e0
  have HNX := hide (fun i c (hc : (cont n)[i]? = some c) => nextOf_get (HG1.out.ok.nd n) hc)
  have HM1 := hide (And.intro m1 (And.intro m2 m3))
  clear m1 m2 m3 eg hh0
  have hmk := run_make (P := Try.prog) (w := w1) 23 3 i0 _ Try.underlying23 hi0 hz0 .i64 .i64 0 ((cont n).length : Int) (by omega) (by omega) (by rw [hz2]; omega) (by omega)
  simp only [hz1, Int.toNat_natCast, Int.toNat_zero, Nat.mul_one, Value.cells] at hmk
  have HM0 := hide (show (w1.alloc (.cells (madeCells #[Value.int .i64 0] (cont n).length) 3)).ownsRow w1.heap.size 3 1 (.slice (some ⟨w1.heap.size, 0, none⟩) 0 (cont n).length) 0 [] from World.ownsRow_made w1 _ _ (Nat.le_refl _) (by unfold maxLen; omega) (by rw [size_madeCells, Nat.mul_one]))
  have HE0 := hide (Ext.alloc w1 (.cells (madeCells #[Value.int .i64 0] (cont n).length) 3))
  have e0 := cell_ext e0
  have e0 := e0 _ HE0.out
  clear x0 x1
  go_upto_region 4 with fail
  clear hmk e2 e0
  have HIX := hide (And.intro hi0 (And.intro hz0 (And.intro hz1 hz2)))
  clear hi0 hz0 hz1 hz2
  generalize w1.alloc (.cells (madeCells #[Value.int .i64 0] (cont n).length) 3) = w2 at *
  generalize hLL : cont n = L at *
  have HLL := hide hLL; clear hLL
  go_loopw [6, 7] (fun s6 s7 w' => ∃ (i : Nat) (A' : Option Addr) (c' : Nat), i ≤ L.length ∧ s6 = .slice A' i c' ∧ s7 = .int .i64 (oi L[i]?) ∧ Hid (w'.ownsRow w1.heap.size 3 1 (.slice A' i c') i (natC (L.take i))) ∧ Hid (Ext w1 w')) (fun s6 _ _ => L.length - lenV s6)
  case atStart => exact ⟨0, some ⟨w1.heap.size, 0, none⟩, L.length, by omega, rfl, rfl, HM0.out, HE0.out⟩
  case round =>
    obtain ⟨i, A', c', hin, rfl, rfl, hO, hX⟩ := hrel
    by_cases hi : i < L.length
    · obtain ⟨c, hc⟩ : ∃ c, L[i]? = some c := ⟨_, List.getElem?_eq_getElem hi⟩
      have hcn : c ∈ cont n := by rw [HLL.out]; exact List.mem_of_getElem? hc
      have hlk := HG1.out.ok.lnk n c hcn
      rw [HLL.out, HNX.out i c hc] at hlk
      have hcl := (List.getElem?_eq_some_iff.1 hlk).1
      obtain ⟨ga, hLA, -, -, -, -, -, k2, -⟩ := (HM1.out.1).lnk hlk
      subst hLA
      dsimp only at k2
      have hgx : w1.cell? ⟨gx, 0, none⟩ = some (.pointer (some ⟨x, 0, none⟩)) := HG1.out.chg.cell (HX.out.cell 0) HXB.out.1
      have a1 : w1.cell? ⟨x, 1, none⟩ = some (.slice (some ⟨ga, 0, none⟩) at_.length cA) := HM1.out.1.blk.cell 1
      rw [hc, show oi (some c) = (c : Int) from rfl]
      have hc0 : (0 : Int) ≤ (c : Int) := by omega
      have HS := hide (show Sl (wr.alloc (.cells #[.int .i64 (c : Int)] 3)) (some ⟨wr.heap.size, 0, none⟩) 1 1 [.int .i64 (c : Int)] from (Blk.new wr _ _).sl rfl)
      have HONE := hide (show OneCells [Value.int .i64 (c : Int)] from fun v hv => by simp at hv; rw [hv]; rfl)
      have HO := hide (mine_ext hO.out (Ext.alloc wr (.cells #[.int .i64 (c : Int)] 3)))
      have HXA := hide (hX.out.trans (Ext.alloc wr (.cells #[.int .i64 (c : Int)] 3)))
      have HTK := hide (show natC (L.take (i + 1)) = natC (L.take i) ++ [.int .i64 (c : Int)] by rw [List.take_add_one, hc]; simp [natC])
      have hcat : at_.length ≤ 9223372036854775807 := by have := HG1.out.ok.cl; omega
      have G1 := hide (And.intro hgx (And.intro a1 k2))
      clear hlk hcn hc hgx a1 k2
      go_wp2_with (at_builtin; refine wpList_append_sl rfl (.tmp 38) (.tmp 40) _ rfl 3 i0 _ 1 8 Try.underlying23 HIX.out.1 HIX.out.2.1 HIX.out.2.2.1 HIX.out.2.2.2 rfl (by omega) w1 HXA.out (.slice A' i c') i (natC (L.take i)) rfl HO.out _ 1 1 _ rfl HS.out HONE.out (by unfold maxLen; omega) (by omega) ?_; intro A8 c8 w8 own8 E8 G8 L8; have hgx := E8.out.cell G1.out.1; have a1 := E8.out.cell G1.out.2.1; have k2 := E8.out.cell G1.out.2.2)
      go_roundw
      case rel => exact ⟨i + 1, A8, c8, by omega, rfl, rfl, by rw [Hid, HTK.out]; exact own8.out, E8.out⟩
      case measure => simp only [lenV]; omega
    · obtain rfl : i = L.length := by omega
      rw [List.getElem?_eq_none (Nat.le_refl _), show oi none = -1 from rfl]
      rw [List.take_length] at hO
      have HCW := hide (HG1.out.chg.trans' (Chg.of hX.out))
      have HJW := hide (HJ0.out w1.heap.size wr HG1.out.chg.size hX.out.size HCW.out)
      have HCH := hide (show ∃ B', HCh wr B' x cells lists cont ∧ ∀ b, B' b → (B b ∨ w.heap.size ≤ b) ∧ b < w1.heap.size from ⟨B1, ⟨⟨_, _, _, _, _, _, HM1.out.1.ext hX.out, HG1.out.ok⟩, fun b hb => Nat.lt_of_lt_of_le (HM1.out.2.2 b hb) hX.out.size, hcm, hlm⟩, fun b hb => ⟨HM1.out.2.1 b hb, HM1.out.2.2 b hb⟩⟩)
      have HFQ := hide (show Fq (fun g => B g ∨ SY g) w.heap.size w wr from Fq.of_fr ⟨HCW.out.os, HCW.out.tape, HCW.out.output, HCW.out.size, fun k h1 h2 => HCW.out.block k h1 fun h3 => h2 (.inl h3)⟩)
      have HSZ := hide HG1.out.chg.size
      go_wp2_with fail
      have HOL := hide hO.out
      have HW1 := hide hX.out.size
      clear hO hi hin hX
      go_loopw [9, 44] (fun _ s44 w' => ∃ j : Nat, j ≤ L.length ∧ s44 = .int .i64 j ∧ Hid (J w1.heap.size j w') ∧ Hid (w1.heap.size ≤ w'.heap.size) ∧ Hid (Fq (fun g => B g ∨ SY g) w.heap.size w w') ∧ Hid (w'.ownsRow w1.heap.size 3 1 (.slice A' L.length c') L.length (natC L)) ∧ Hid (∃ B', HCh w' B' x cells lists cont ∧ ∀ b, B' b → (B b ∨ w.heap.size ≤ b) ∧ b < w1.heap.size)) (fun _ s44 _ => L.length - (intOf s44).toNat)
      case atStart => exact ⟨0, by omega, rfl, HJW.out, HW1.out, HFQ.out, HOL.out, HCH.out⟩
      case round =>
        clear HJW HFQ HOL HCH HCW HW1
        obtain ⟨j, hj, rfl, hJ, hW, hF, hO, hC⟩ := hrel
        by_cases h : j < L.length
        · obtain ⟨c, hc⟩ : ∃ c, L[j]? = some c := ⟨_, List.getElem?_eq_getElem h⟩
          obtain ⟨g9, rfl, -, -, hcell, -⟩ := (show OwnH wr (fun _ => True) 3 1 L.length (.slice A' L.length c') (natC L) from ⟨mine_base hO.out (Nat.zero_le _), fun _ _ => trivial⟩).at_ (by omega)
          have d0 := hcell j (.int .i64 (c : Int)) (by unfold natC; rw [List.getElem?_map, hc]; rfl)
          obtain ⟨fn, tmps, assign, body, hy, hR⟩ := HY.out w1.heap.size j c wr HSZ.out hW.out hc hJ.out hF.out hC.out
          have HR := hide hR
          clear hc hcell hR
          go_upto_region 10 with fail
          refine (wpIn_wide (n := 1)).1 ?_
          gi_wp2_with fail
          refine HR.out.mono ?_
          rintro e w5 ⟨hFy, rfl, hJ5⟩
          have HFy := hide hFy; have HJ5 := hide hJ5
          clear hFy hJ5
          gi_wp2_with fail
          go_wp2_with fail
          go_roundw
          case rel =>
            refine ⟨j + 1, by omega, by go_num, HJ5.out, Nat.le_trans hW.out HFy.out.size, hF.out.trans (HFy.out.mono fun g hg => .inr hg), own_fq hO.out HFy.out (fun g hg hs => ?_) (by decide), ?_⟩
            · have h8 := (hO.out.lt g hg).1
              have h9 := (HSY.out g hs).1
              have := HSZ.out
              omega
            · obtain ⟨B', k1, k2⟩ := hC.out
              refine ⟨B', k1.fq HFy.out fun g hg hs => ?_, k2⟩
              rcases (k2 g hg).1 with h9 | h9
              · exact (HSY.out g hs).2 h9
              · have := (HSY.out g hs).1
                omega
          case measure => simp [intOf]; omega
        · obtain rfl : j = L.length := by omega
          go_wp2_with fail
          go_end0
          exact ⟨_, rfl, HSZ.out, hW.out, by rw [HLL.out]; exact hJ.out, hF.out, hC.out⟩
end Go.Proofs.Ytahdiiaadjdmcaa

namespace Go.Proofs.Ytahdiiaadjdmcaa
open Go.RowKit

theorem remEn_eq {e : List L3} {n : Nat} {y : L3} (hy : e[n]? = some y) (p q : Option Nat) :
    (let e1 := enSize e n (y.2.2 - 1)
     let e2 := if p = none then enFirst e1 n (oi q) else e1
     if q = none then enLast e2 n (oi p) else e2) = remEn e n p q := by
  apply List.ext_getElem?
  intro j
  unfold remEn enSize
  rw [modify_get]
  by_cases hj : n = j
  · subst hj
    rw [if_pos rfl, hy]
    rcases p with _ | p <;> rcases q with _ | q
    · simp [enFirst, enLast, hy]
    · simp [enFirst, hy]
    · simp [enLast, hy]
    · simp [hy]
  · rw [if_neg hj]
    rcases p with _ | p <;> rcases q with _ | q
    · simp [enFirst, enLast, hj]
    · simp [enFirst, hj]
    · simp [enLast, hj]
    · simp [hj]

set_option maxRecDepth 100000 in
set_option maxHeartbeats 2000000 in
theorem remove_at {w : World} {B : Nat → Prop} {x cells lists : Nat} {LA : Option Addr} {cA : Nat} {LE : Option Addr} {cE : Nat} {at_ en : List L3} (h : ChAt w B x cells lists LA cA LE cE at_ en) {n c : Nat} {p q : Option Nat} (hc : at_[c]? = some ((n : Int) + 1, oi p, oi q)) {y : L3} (hy : en[n]? = some y) (hcc : c < cells) (hm2 : en.length ≤ 1048577) (hsz : 0 ≤ y.2.2 ∧ y.2.2 ≤ 1048576)
    (hp : ∀ y, p = some y → y < at_.length ∧ y ≠ c) (hq : ∀ y, q = some y → y < at_.length ∧ y ≠ c) :
    Calls Try.prog 89 #[.pointer (some ⟨x, 0, none⟩), .int .i64 c] w fun e w' => e = .returned (.int .i64 0) ∧ ChAt w' B x cells lists LA cA LE cE (remAt at_ c p q) (remEn en n p q) ∧ Chg B w w' := by
  have HL := hide (linked_any h hc (by simp only; omega) hcc)
  obtain ⟨g, rfl, hgB, hgx, hgl, k0, k1, k2, kf⟩ := h.lnk hc
  obtain ⟨g', rfl, hgB', hgx', hgl', e0, e1, e2, ef⟩ := h.end_ hy
  have hcl := (List.getElem?_eq_some_iff.1 hc).1
  have hnl := (List.getElem?_eq_some_iff.1 hy).1
  have hgg := h.apart rfl rfl
  have a3 : w.cell? ⟨x, 3, none⟩ = some (.slice (some ⟨g', 0, none⟩) en.length cE) := h.blk.cell 3
  have n1 := Ne.symm hgx; have n2 := Ne.symm hgx'; have n3 := Ne.symm hgg
  have hsum : IntKind.i64.wrap (n : Int) = (n : Int) := IntWalk.i64_in _ (by omega)
  have hIN := hide (And.intro h.inB (And.intro hgB hgB'))
  have HC := hide hc; have HY := hide hy; have HP := hide hp; have HQ := hide hq; have H := hide h
  dsimp only at k0 k1 k2
  clear h hc hy hp hq kf ef e0 e1
  go_enter Try.func89, Try.ntmps89
  go_upto_region 4 with ((with_reducible refine HL.out.mono ?_); rintro e w1 ⟨rfl, g0, hg0, rfl⟩; obtain rfl : g = g0 := by injection hg0 with hg0; injection hg0)
  clear HL
  have k0 := cell_ext k0
  have a3 := cell_ext a3
  refine wp_region_ext 11 (by kernel_rfl) (by kernel_rfl) (by kernel_rfl) ?_
  iterate 11
    refine wpE_k (by kernel_rfl) (by kernel_rfl) ?_
    apply Exists.intro
    refine ⟨fun w1 hw1 => ?_, fun K hK => ?_⟩
    · go_simp; first | done | rfl
    go_simp; refine hK _ _ ?_; clear hK K
  refine wpE_nil ⟨rfl, by kernel_rfl, fun wq hwq => ?_⟩
  simp only [EndQ]
  refine wpList_nil ?_
  clear k0 a3 hsum k1 k2 e2
  have HX0 := hide hwq; have H0 := hide (H.out.ext hwq)
  clear hwq
  obtain ⟨g2, eg, -, -, -, -, -, e2, ef⟩ := H0.out.end_ HY.out
  obtain rfl : g' = g2 := by injection eg with eg; injection eg
  have f2 := ef (n * 3 + 2)
  clear ef eg
  go_upto_region 6 with fail
  have H1 := hide (H0.out.putE (u := .int .i64 (y.2.2 - 1)) (l3C_set2 en n (y.2.2 - 1)) (by simp))
  have HX1 := hide (((Chg.of HX0.out : Chg B _ wq)).setCell (p := ⟨g', n * 3 + 2, none⟩) (.inl hIN.out.2.2) (.int .i64 (y.2.2 - 1)))
  clear e2 f2
  generalize wq.setCell ⟨g', n * 3 + 2, none⟩ (.int .i64 (y.2.2 - 1)) = w1' at *
  have he1 : (en.modify n fun x => (x.1, x.2.1, y.2.2 - 1)) = enSize en n (y.2.2 - 1) := rfl
  rw [he1] at H1
  clear he1
  rcases p with _ | p <;> rcases q with _ | q
  · -- none none
    obtain ⟨g3, eg, -, -, -, k0, k1, k2, kf⟩ := H1.out.lnk HC.out
    obtain rfl : g = g3 := by injection eg with eg; injection eg
    replace k1 : w1'.cell? ⟨g, c * 3 + 1, none⟩ = some (.int .i64 (-1 : Int)) := k1
    replace k2 : w1'.cell? ⟨g, c * 3 + 2, none⟩ = some (.int .i64 (-1 : Int)) := k2
    clear eg k0
    have hel1 : n < (enSize en n (y.2.2 - 1)).length := by simp [enSize]; exact hnl
    obtain ⟨g4, eg, -, -, -, e0, -, -, ef⟩ := H1.out.end_ (List.getElem?_eq_getElem hel1)
    obtain rfl : g' = g4 := by injection eg with eg; injection eg
    have f0 := ef (n * 3)
    clear ef eg kf
    go_upto_region 9 with fail
    have H2 := hide (H1.out.putE (u := .int .i64 (-1 : Int)) (l3C_set0 _ n (-1 : Int)) (by simp))
    have HX2 := hide (HX1.out.setCell (p := ⟨g', n * 3, none⟩) (.inl hIN.out.2.2) (.int .i64 (-1 : Int)))
    clear e0 f0 k1 k2
    generalize w1'.setCell ⟨g', n * 3, none⟩ (.int .i64 (-1 : Int)) = w2' at *
    have he2 : ((enSize en n (y.2.2 - 1)).modify n fun x => ((-1 : Int), x.2.1, x.2.2)) = enFirst (enSize en n (y.2.2 - 1)) n (oi none) := rfl
    rw [he2] at H2
    clear he2
    have hc2 := HC.out
    obtain ⟨g5, eg, -, -, -, -, k1, k2, kf⟩ := H2.out.lnk hc2
    obtain rfl : g = g5 := by injection eg with eg; injection eg
    replace k1 : w2'.cell? ⟨g, c * 3 + 1, none⟩ = some (.int .i64 (-1 : Int)) := k1
    replace k2 : w2'.cell? ⟨g, c * 3 + 2, none⟩ = some (.int .i64 (-1 : Int)) := k2
    clear eg
    have hel2 : n < (enFirst (enSize en n (y.2.2 - 1)) n (oi none)).length := by simp [enSize, enFirst]; exact hnl
    obtain ⟨g6, eg, -, -, -, -, e1, -, ef⟩ := H2.out.end_ (List.getElem?_eq_getElem hel2)
    obtain rfl : g' = g6 := by injection eg with eg; injection eg
    have f1 := ef (n * 3 + 1)
    clear ef eg kf
    go_upto_region 12 with fail
    have H3 := hide (H2.out.putE (u := .int .i64 (-1 : Int)) (l3C_set1 _ n (-1 : Int)) (by simp))
    have HX3 := hide (HX2.out.setCell (p := ⟨g', n * 3 + 1, none⟩) (.inl hIN.out.2.2) (.int .i64 (-1 : Int)))
    clear e1 f1 k1 k2
    generalize w2'.setCell ⟨g', n * 3 + 1, none⟩ (.int .i64 (-1 : Int)) = w3' at *
    have he3 : ((enFirst (enSize en n (y.2.2 - 1)) n (oi none)).modify n fun x => (x.1, (-1 : Int), x.2.2)) = enLast (enFirst (enSize en n (y.2.2 - 1)) n (oi none)) n (oi none) := rfl
    rw [he3] at H3
    clear he3
    have hc3 := hc2
    obtain ⟨g7, eg, -, -, -, k0, k1, k2, kf⟩ := H3.out.lnk hc3
    obtain rfl : g = g7 := by injection eg with eg; injection eg
    have f0 := kf (c * 3)
    have f1 := kf (c * 3 + 1)
    have f2 := kf (c * 3 + 2)
    clear kf eg
    go_wp2_with fail
    go_ret
    have h4 := H3.out.setA (i := c) ((0 : Int), (0 : Int), (0 : Int))
    have he := remEn_eq HY.out none none
    simp only [if_true] at he
    rw [← he]
    exact ⟨rfl, h4, ((HX3.out.setCell (p := ⟨g, c * 3, none⟩) (.inl hIN.out.2.1) _).setCell (p := ⟨g, c * 3 + 1, none⟩) (.inl hIN.out.2.1) _).setCell (p := ⟨g, c * 3 + 2, none⟩) (.inl hIN.out.2.1) _⟩
  · -- none some
    obtain ⟨hql, hqc⟩ := HQ.out q rfl
    have hq0 : ¬ ((q : Int) < 0) := by omega
    obtain ⟨g3, eg, -, -, -, k0, k1, k2, kf⟩ := H1.out.lnk HC.out
    obtain rfl : g = g3 := by injection eg with eg; injection eg
    replace k1 : w1'.cell? ⟨g, c * 3 + 1, none⟩ = some (.int .i64 (-1 : Int)) := k1
    replace k2 : w1'.cell? ⟨g, c * 3 + 2, none⟩ = some (.int .i64 (q : Int)) := k2
    clear eg k0
    have hel1 : n < (enSize en n (y.2.2 - 1)).length := by simp [enSize]; exact hnl
    obtain ⟨g4, eg, -, -, -, e0, -, -, ef⟩ := H1.out.end_ (List.getElem?_eq_getElem hel1)
    obtain rfl : g' = g4 := by injection eg with eg; injection eg
    have f0 := ef (n * 3)
    clear ef eg kf
    go_upto_region 9 with fail
    have H2 := hide (H1.out.putE (u := .int .i64 (q : Int)) (l3C_set0 _ n (q : Int)) (by simp))
    have HX2 := hide (HX1.out.setCell (p := ⟨g', n * 3, none⟩) (.inl hIN.out.2.2) (.int .i64 (q : Int)))
    clear e0 f0 k1 k2
    generalize w1'.setCell ⟨g', n * 3, none⟩ (.int .i64 (q : Int)) = w2' at *
    have he2 : ((enSize en n (y.2.2 - 1)).modify n fun x => ((q : Int), x.2.1, x.2.2)) = enFirst (enSize en n (y.2.2 - 1)) n (oi (some q)) := rfl
    rw [he2] at H2
    clear he2
    have hc2 := HC.out
    obtain ⟨g5, eg, -, -, -, -, k1, k2, kf⟩ := H2.out.lnk hc2
    obtain rfl : g = g5 := by injection eg with eg; injection eg
    replace k1 : w2'.cell? ⟨g, c * 3 + 1, none⟩ = some (.int .i64 (-1 : Int)) := k1
    replace k2 : w2'.cell? ⟨g, c * 3 + 2, none⟩ = some (.int .i64 (q : Int)) := k2
    clear eg
    have hl2 : at_.length = at_.length := rfl
    have a1 : w2'.cell? ⟨x, 1, none⟩ = some (.slice (some ⟨g, 0, none⟩) at_.length cA) := H2.out.blk.cell 1
    rw [hl2] at a1
    go_upto_region 11 with fail
    have k1 := cell_ext k1
    have k2 := cell_ext k2
    have a1 := cell_ext a1
    refine wp_region_ext 15 (by kernel_rfl) (by kernel_rfl) (by kernel_rfl) ?_
    iterate 15
      refine wpE_k (by kernel_rfl) (by kernel_rfl) ?_
      apply Exists.intro
      refine ⟨fun w1 hw1 => ?_, fun K hK => ?_⟩
      · go_simp; first | done | rfl
      go_simp; refine hK _ _ ?_; clear hK K
    refine wpE_nil ⟨rfl, by kernel_rfl, fun wr3 hwr3 => ?_⟩
    simp only [EndQ, List.drop]
    have H2q := hide (H2.out.ext hwr3)
    have HX2q := hide (HX2.out.trans' (Chg.of hwr3))
    clear k1 k2 a1 hwr3 kf
    obtain ⟨g6, eg, -, -, -, -, q1, -, qf⟩ := H2q.out.lnk (List.getElem?_eq_getElem (show q < at_.length by rw [hl2]; exact hql))
    obtain rfl : g = g6 := by injection eg with eg; injection eg
    have f1 := qf (q * 3 + 1)
    clear eg qf
    go_upto_region 12 with fail
    have H3 := hide (H2q.out.setPrev (p := q) (v := (-1 : Int)))
    have HX3 := hide (HX2q.out.setCell (p := ⟨g, q * 3 + 1, none⟩) (.inl hIN.out.2.1) (.int .i64 (-1 : Int)))
    clear q1 f1 H2q HX2q
    generalize wr3.setCell ⟨g, q * 3 + 1, none⟩ (.int .i64 (-1 : Int)) = w3' at *
    have hc3 := setPrev_get at_ (some q) (-1 : Int) c
    rw [if_neg (fun e => hqc (by injection e)), hc2] at hc3
    obtain ⟨g7, eg, -, -, -, k0, k1, k2, kf⟩ := H3.out.lnk hc3
    obtain rfl : g = g7 := by injection eg with eg; injection eg
    have f0 := kf (c * 3)
    have f1 := kf (c * 3 + 1)
    have f2 := kf (c * 3 + 2)
    clear kf eg
    go_wp2_with fail
    go_ret
    have h4 := H3.out.setA (i := c) ((0 : Int), (0 : Int), (0 : Int))
    have he := remEn_eq HY.out none (some q)
    simp only [if_true, reduceCtorEq, if_false] at he
    rw [← he]
    exact ⟨rfl, h4, ((HX3.out.setCell (p := ⟨g, c * 3, none⟩) (.inl hIN.out.2.1) _).setCell (p := ⟨g, c * 3 + 1, none⟩) (.inl hIN.out.2.1) _).setCell (p := ⟨g, c * 3 + 2, none⟩) (.inl hIN.out.2.1) _⟩
  · -- some none
    obtain ⟨hpl, hpc⟩ := HP.out p rfl
    have hp0 : ¬ ((p : Int) < 0) := by omega
    obtain ⟨g3, eg, -, -, -, k0, k1, k2, kf⟩ := H1.out.lnk HC.out
    obtain rfl : g = g3 := by injection eg with eg; injection eg
    replace k1 : w1'.cell? ⟨g, c * 3 + 1, none⟩ = some (.int .i64 (p : Int)) := k1
    replace k2 : w1'.cell? ⟨g, c * 3 + 2, none⟩ = some (.int .i64 (-1 : Int)) := k2
    clear eg k0
    have a1 : w1'.cell? ⟨x, 1, none⟩ = some (.slice (some ⟨g, 0, none⟩) at_.length cA) := H1.out.blk.cell 1
    have k1' := k1
    go_upto_region 8 with fail
    clear k1'
    have k1 := cell_ext k1
    have k2 := cell_ext k2
    have a1 := cell_ext a1
    refine wp_region_ext 15 (by kernel_rfl) (by kernel_rfl) (by kernel_rfl) ?_
    iterate 15
      refine wpE_k (by kernel_rfl) (by kernel_rfl) ?_
      apply Exists.intro
      refine ⟨fun w1 hw1 => ?_, fun K hK => ?_⟩
      · go_simp; first | done | rfl
      go_simp; refine hK _ _ ?_; clear hK K
    refine wpE_nil ⟨rfl, by kernel_rfl, fun wr2 hwr2 => ?_⟩
    simp only [EndQ, List.drop]
    have H1q := hide (H1.out.ext hwr2)
    have HX1q := hide (HX1.out.trans' (Chg.of hwr2))
    clear k1 k2 a1 hwr2 kf
    obtain ⟨g4, eg, -, -, -, -, -, p2, pf⟩ := H1q.out.lnk (List.getElem?_eq_getElem hpl)
    obtain rfl : g = g4 := by injection eg with eg; injection eg
    have f0 := pf (p * 3 + 2)
    clear eg pf
    go_upto_region 9 with fail
    have H2 := hide (H1q.out.setNext (p := p) (v := (-1 : Int)))
    have HX2 := hide (HX1q.out.setCell (p := ⟨g, p * 3 + 2, none⟩) (.inl hIN.out.2.1) (.int .i64 (-1 : Int)))
    clear p2 f0 H1q HX1q
    generalize wr2.setCell ⟨g, p * 3 + 2, none⟩ (.int .i64 (-1 : Int)) = w2' at *
    have hc2 := setNext_get at_ (some p) (-1 : Int) c
    rw [if_neg (fun e => hpc (by injection e)), HC.out] at hc2
    obtain ⟨g5, eg, -, -, -, -, k1, k2, kf⟩ := H2.out.lnk hc2
    obtain rfl : g = g5 := by injection eg with eg; injection eg
    replace k1 : w2'.cell? ⟨g, c * 3 + 1, none⟩ = some (.int .i64 (p : Int)) := k1
    replace k2 : w2'.cell? ⟨g, c * 3 + 2, none⟩ = some (.int .i64 (-1 : Int)) := k2
    clear eg
    have hel2 : n < (enSize en n (y.2.2 - 1)).length := by simp [enSize]; exact hnl
    obtain ⟨g6, eg, -, -, -, -, e1, -, ef⟩ := H2.out.end_ (List.getElem?_eq_getElem hel2)
    obtain rfl : g' = g6 := by injection eg with eg; injection eg
    have f1 := ef (n * 3 + 1)
    clear ef eg kf
    go_upto_region 12 with fail
    have H3 := hide (H2.out.putE (u := .int .i64 (p : Int)) (l3C_set1 _ n (p : Int)) (by simp))
    have HX3 := hide (HX2.out.setCell (p := ⟨g', n * 3 + 1, none⟩) (.inl hIN.out.2.2) (.int .i64 (p : Int)))
    clear e1 f1 k1 k2
    generalize w2'.setCell ⟨g', n * 3 + 1, none⟩ (.int .i64 (p : Int)) = w3' at *
    have he3 : ((enSize en n (y.2.2 - 1)).modify n fun x => (x.1, (p : Int), x.2.2)) = enLast (enSize en n (y.2.2 - 1)) n (oi (some p)) := rfl
    rw [he3] at H3
    clear he3
    have hc3 := hc2
    obtain ⟨g7, eg, -, -, -, k0, k1, k2, kf⟩ := H3.out.lnk hc3
    obtain rfl : g = g7 := by injection eg with eg; injection eg
    have f0 := kf (c * 3)
    have f1 := kf (c * 3 + 1)
    have f2 := kf (c * 3 + 2)
    clear kf eg
    go_wp2_with fail
    go_ret
    have h4 := H3.out.setA (i := c) ((0 : Int), (0 : Int), (0 : Int))
    have he := remEn_eq HY.out (some p) none
    simp only [if_true, reduceCtorEq, if_false] at he
    rw [← he]
    exact ⟨rfl, h4, ((HX3.out.setCell (p := ⟨g, c * 3, none⟩) (.inl hIN.out.2.1) _).setCell (p := ⟨g, c * 3 + 1, none⟩) (.inl hIN.out.2.1) _).setCell (p := ⟨g, c * 3 + 2, none⟩) (.inl hIN.out.2.1) _⟩
  · -- some some
    obtain ⟨hpl, hpc⟩ := HP.out p rfl
    have hp0 : ¬ ((p : Int) < 0) := by omega
    obtain ⟨hql, hqc⟩ := HQ.out q rfl
    have hq0 : ¬ ((q : Int) < 0) := by omega
    obtain ⟨g3, eg, -, -, -, k0, k1, k2, kf⟩ := H1.out.lnk HC.out
    obtain rfl : g = g3 := by injection eg with eg; injection eg
    replace k1 : w1'.cell? ⟨g, c * 3 + 1, none⟩ = some (.int .i64 (p : Int)) := k1
    replace k2 : w1'.cell? ⟨g, c * 3 + 2, none⟩ = some (.int .i64 (q : Int)) := k2
    clear eg k0
    have a1 : w1'.cell? ⟨x, 1, none⟩ = some (.slice (some ⟨g, 0, none⟩) at_.length cA) := H1.out.blk.cell 1
    have k1' := k1
    go_upto_region 8 with fail
    clear k1'
    have k1 := cell_ext k1
    have k2 := cell_ext k2
    have a1 := cell_ext a1
    refine wp_region_ext 15 (by kernel_rfl) (by kernel_rfl) (by kernel_rfl) ?_
    iterate 15
      refine wpE_k (by kernel_rfl) (by kernel_rfl) ?_
      apply Exists.intro
      refine ⟨fun w1 hw1 => ?_, fun K hK => ?_⟩
      · go_simp; first | done | rfl
      go_simp; refine hK _ _ ?_; clear hK K
    refine wpE_nil ⟨rfl, by kernel_rfl, fun wr2 hwr2 => ?_⟩
    simp only [EndQ, List.drop]
    have H1q := hide (H1.out.ext hwr2)
    have HX1q := hide (HX1.out.trans' (Chg.of hwr2))
    clear k1 k2 a1 hwr2 kf
    obtain ⟨g4, eg, -, -, -, -, -, p2, pf⟩ := H1q.out.lnk (List.getElem?_eq_getElem hpl)
    obtain rfl : g = g4 := by injection eg with eg; injection eg
    have f0 := pf (p * 3 + 2)
    clear eg pf
    go_upto_region 9 with fail
    have H2 := hide (H1q.out.setNext (p := p) (v := (q : Int)))
    have HX2 := hide (HX1q.out.setCell (p := ⟨g, p * 3 + 2, none⟩) (.inl hIN.out.2.1) (.int .i64 (q : Int)))
    clear p2 f0 H1q HX1q
    generalize wr2.setCell ⟨g, p * 3 + 2, none⟩ (.int .i64 (q : Int)) = w2' at *
    have hc2 := setNext_get at_ (some p) (q : Int) c
    rw [if_neg (fun e => hpc (by injection e)), HC.out] at hc2
    obtain ⟨g5, eg, -, -, -, -, k1, k2, kf⟩ := H2.out.lnk hc2
    obtain rfl : g = g5 := by injection eg with eg; injection eg
    replace k1 : w2'.cell? ⟨g, c * 3 + 1, none⟩ = some (.int .i64 (p : Int)) := k1
    replace k2 : w2'.cell? ⟨g, c * 3 + 2, none⟩ = some (.int .i64 (q : Int)) := k2
    clear eg
    have hl2 : (setNext at_ (some p) (q : Int)).length = at_.length := setNext_len _ _ _
    have a1 : w2'.cell? ⟨x, 1, none⟩ = some (.slice (some ⟨g, 0, none⟩) (setNext at_ (some p) (q : Int)).length cA) := H2.out.blk.cell 1
    rw [hl2] at a1
    go_upto_region 11 with fail
    have k1 := cell_ext k1
    have k2 := cell_ext k2
    have a1 := cell_ext a1
    refine wp_region_ext 15 (by kernel_rfl) (by kernel_rfl) (by kernel_rfl) ?_
    iterate 15
      refine wpE_k (by kernel_rfl) (by kernel_rfl) ?_
      apply Exists.intro
      refine ⟨fun w1 hw1 => ?_, fun K hK => ?_⟩
      · go_simp; first | done | rfl
      go_simp; refine hK _ _ ?_; clear hK K
    refine wpE_nil ⟨rfl, by kernel_rfl, fun wr3 hwr3 => ?_⟩
    simp only [EndQ, List.drop]
    have H2q := hide (H2.out.ext hwr3)
    have HX2q := hide (HX2.out.trans' (Chg.of hwr3))
    clear k1 k2 a1 hwr3 kf
    obtain ⟨g6, eg, -, -, -, -, q1, -, qf⟩ := H2q.out.lnk (List.getElem?_eq_getElem (show q < (setNext at_ (some p) (q : Int)).length by rw [hl2]; exact hql))
    obtain rfl : g = g6 := by injection eg with eg; injection eg
    have f1 := qf (q * 3 + 1)
    clear eg qf
    go_upto_region 12 with fail
    have H3 := hide (H2q.out.setPrev (p := q) (v := (p : Int)))
    have HX3 := hide (HX2q.out.setCell (p := ⟨g, q * 3 + 1, none⟩) (.inl hIN.out.2.1) (.int .i64 (p : Int)))
    clear q1 f1 H2q HX2q
    generalize wr3.setCell ⟨g, q * 3 + 1, none⟩ (.int .i64 (p : Int)) = w3' at *
    have hc3 := setPrev_get (setNext at_ (some p) (q : Int)) (some q) (p : Int) c
    rw [if_neg (fun e => hqc (by injection e)), hc2] at hc3
    obtain ⟨g7, eg, -, -, -, k0, k1, k2, kf⟩ := H3.out.lnk hc3
    obtain rfl : g = g7 := by injection eg with eg; injection eg
    have f0 := kf (c * 3)
    have f1 := kf (c * 3 + 1)
    have f2 := kf (c * 3 + 2)
    clear kf eg
    go_wp2_with fail
    go_ret
    have h4 := H3.out.setA (i := c) ((0 : Int), (0 : Int), (0 : Int))
    have he := remEn_eq HY.out (some p) (some q)
    simp only [reduceCtorEq, if_false] at he
    rw [← he]
    exact ⟨rfl, h4, ((HX3.out.setCell (p := ⟨g, c * 3, none⟩) (.inl hIN.out.2.1) _).setCell (p := ⟨g, c * 3 + 1, none⟩) (.inl hIN.out.2.1) _).setCell (p := ⟨g, c * 3 + 2, none⟩) (.inl hIN.out.2.1) _⟩

theorem remove_any {w : World} {B : Nat → Prop} {x cells lists : Nat} {cont : Nat → List Nat} (h : HCh w B x cells lists cont) {n c : Nat} {A D : List Nat} (hAD : cont n = A ++ c :: D) :
    Calls Try.prog 89 #[.pointer (some ⟨x, 0, none⟩), .int .i64 c] w fun e w' => e = .returned (.int .i64 0) ∧ HCh w' B x cells lists (upd cont n (A ++ D)) ∧ Chg B w w' := by
  obtain ⟨LA, cA, LE, cE, at_, en, h1, h2⟩ := h.mem
  have hcn : c ∈ cont n := by rw [hAD]; simp
  have hnd : (A ++ c :: D).Nodup := by rw [← hAD]; exact h2.nd n
  have hc := h2.lnk n c hcn
  rw [hAD, prevOf_mid hnd, nextOf_mid hnd] at hc
  have hnl := (h2.lt hcn).2
  have hy := List.getElem?_eq_getElem hnl
  have hye := h2.ends n _ hy
  have hcl := h2.cl; have hel := h2.el; have hcm := h.cm; have hlm := h.lm
  have hcl2 : (cont n).length ≤ 1048576 := by
    have hb : ∀ y ∈ cont n, y < at_.length := fun y hy => (h2.lt hy).1
    have := nodup_lt _ _ (h2.nd n) hb
    omega
  have hcA : c ∉ A ∧ c ∉ D := by
    rw [List.nodup_append] at hnd
    exact ⟨fun hc => hnd.2.2 c hc c (by simp) rfl, (List.nodup_cons.1 hnd.2.1).1⟩
  refine (remove_at h1 hc hy (Nat.lt_of_lt_of_le (h2.lt hcn).1 hcl) (by omega) (by rw [hye]; simp only; omega)
    (fun y hy => ⟨(h2.lt (show y ∈ cont n by rw [hAD]; exact List.mem_append_left _ (List.mem_of_getLast? hy))).1, fun e => hcA.1 (e ▸ List.mem_of_getLast? hy)⟩)
    (fun y hy => ⟨(h2.lt (show y ∈ cont n by rw [hAD]; exact List.mem_append_right _ (List.mem_cons_of_mem _ (List.mem_of_mem_head? (by rw [hy]; simp))))).1, fun e => hcA.2 (e ▸ List.mem_of_mem_head? (by rw [hy]; simp))⟩)).mono ?_
  rintro e w' ⟨rfl, h3, h4⟩
  exact ⟨rfl, ⟨⟨LA, cA, LE, cE, _, _, h3, h2.rem hAD⟩, fun b hb => Nat.lt_of_lt_of_le (h.lt b hb) h4.size, hcm, hlm⟩, h4⟩
end Go.Proofs.Ytahdiiaadjdmcaa
