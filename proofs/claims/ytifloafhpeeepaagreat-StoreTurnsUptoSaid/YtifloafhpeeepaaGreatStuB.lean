/-
  StoreTurns: the law.
-/
import Derived.Test.YtifloafhpeeepaaGreatGbE
namespace Go.Proofs.YtifloafhpeeepaaGreat
open Go.RowKit

structure OpS where
  kind : Int
  k : Int
  row : List V
def ROp : World → List Value → OpS → Prop := fun w cs o => ∃ A n c, cs = [.int .i64 o.kind, .int .i64 o.k, .slice A n c] ∧ RowAt w A n o.row
theorem ROp.stab : Stab ROp := fun _ _ _ _ hw ⟨A, n, c, e, h⟩ => ⟨A, n, c, e, h.ext hw⟩
theorem LAt.op {w : World} {A : Option Addr} {n : Nat} {ops : List OpS} (h : LAt ROp 3 w A n ops) {i : Nat} (hi : i < n) : ∃ b off o A9 c9, A = some ⟨b, off, none⟩ ∧ ops[i]? = some o ∧ b < w.heap.size ∧ w.cell? ⟨b, off + i * 3, none⟩ = some (.int .i64 o.kind) ∧ w.cell? ⟨b, off + i * 3 + 1, none⟩ = some (.int .i64 o.k) ∧ w.cell? ⟨b, off + i * 3 + 2, none⟩ = some (.slice A9 o.row.length c9) ∧ RowAt w A9 o.row.length o.row := by
  obtain ⟨b, off, o, cs, rfl, ho, hbl, _, _, ⟨A9, n9, c9, rfl, hr⟩, hcell⟩ := LAt.get (by omega) h hi
  obtain rfl := hr.len
  exact ⟨b, off, o, A9, c9, rfl, ho, hbl, hcell 0 (by omega), hcell 1 (by omega), hcell 2 (by omega), hr⟩
theorem dropS_same (S : SAbs) (r : List V) : (dropS S r).1.width = S.width ∧ (dropS S r).1.most = S.most ∧ (dropS S r).1.gs = S.gs ∧ (dropS S r).1.old = S.old := by
  unfold dropS
  split
  · split <;> exact ⟨rfl, rfl, rfl, rfl⟩
  · exact ⟨rfl, rfl, rfl, rfl⟩
theorem putS_old (S : SAbs) (r : List V) : (putS S r).1.old = S.old := by
  unfold putS
  split
  · split
    · rfl
    · split <;> rfl
  · rfl
theorem told_retrows {w w' : World} {rows : List (List V)} {e : Ending} (h : RetRows w rows e w') : ∃ A c, e = .returned (.slice A rows.length c) ∧ Ext w w' ∧ ∀ P : Nat → Prop, (∀ b, w.heap.size ≤ b → b < w'.heap.size → P b) → Told w' P A rows.length c rows := by
  obtain ⟨A, n, c, cells, rfl, rfl, h3, h4, h5⟩ := h
  exact ⟨A, c, rfl, h5, fun P hP => (show MineV w.heap.size w' A rows.length c rows from ⟨cells, rfl, h3, h4⟩).told hP⟩
theorem infoRR : (Tryz.prog.info? 22).map (fun i => (i.zero, i.size, i.bytes)) = some (some (.slice none 0 0), 1, 24) := by kernel_rfl
/-- what the law holds: the store, the rows that were, the groups that were had -/
structure TrI (w0 : World) (x : Nat) (S : SAbs) (N : Nat) (R : List (List V)) (L : List (List (List V))) (Aw : Option Addr) (nw cw : Nat) (P : Nat → Prop) (A : Option Addr) (n c : Nat) (w : World) : Prop where
  fp : FP w0 w x S N P
  was : Told w P Aw nw cw R
  had : HadAt w P A n c L
  new : ∀ b, P b → w0.heap.size ≤ b
section
variable {w0 w w' : World} {x : Nat} {S : SAbs} {N : Nat} {R : List (List V)} {L : List (List (List V))} {Aw : Option Addr} {nw cw : Nat} {P : Nat → Prop} {A : Option Addr} {n c : Nat}
theorem TrI.ext (h : TrI w0 x S N R L Aw nw cw P A n c w) (hw : Ext w w') : TrI w0 x S N R L Aw nw cw (And' P w.heap.size w'.heap.size) A n c w' :=
  ⟨h.fp.ext hw, h.was.ext hw fun b hb => .inl hb, h.had.ext hw fun b hb => .inl hb, fun b hb => hb.elim (h.new b) fun h1 => by have := h.fp.size0; omega⟩
theorem TrI.step {S' : SAbs} {N' : Nat} {Q : Nat → Prop} (h : TrI w0 x S N R L Aw nw cw P A n c w) (hf : FP w0 w' x S' N' Q) (hk : Keeps P w w') (hq : ∀ b, P b → Q b) (hn : ∀ b, Q b → w0.heap.size ≤ b) : TrI w0 x S' N' R L Aw nw cw Q A n c w' :=
  ⟨hf, h.was.keep hk hq, h.had.keep hk hq, hn⟩
theorem TrI.keep {S' : SAbs} {N' : Nat} (h : TrI w0 x S N R L Aw nw cw P A n c w) (hf : FP w0 w' x S' N' P ∧ Keeps P w w') : TrI w0 x S' N' R L Aw nw cw P A n c w' := h.step hf.1 hf.2 (fun _ h => h) h.new
theorem TrI.push {A' : Option Addr} {c' : Nat} (h : TrI w0 x S N R L Aw nw cw P A n c w) {rows : List (List V)} {Ar : Option Addr} {cr : Nat} (hr : Told w P Ar rows.length cr rows) {xs : List Value}
    (ho : OwnH w P 22 1 n (.slice A n c) xs) (hx : ∀ (i : Nat) (rows : List (List V)), L[i]? = some rows → ∃ Ai ci, xs[i]? = some (.slice Ai rows.length ci) ∧ Told w P Ai rows.length ci rows)
    (o8 : OwnH w' (fun b => P b ∨ b = w.heap.size) 22 1 (n + 1) (.slice A' (n + 1) c') (xs ++ [.slice Ar rows.length cr])) (G8 : w.grownBy w' (Value.slice A n c).ownBlock) (C8 : Chg P w w') : TrI w0 x S N R (L ++ [rows]) Aw nw cw (And' P w.heap.size w'.heap.size) A' (n + 1) c' w' :=
  ⟨h.fp.chgP C8 (fun _ h => h) h.new, h.was.grown ho.own G8 fun b hb => .inl hb, h.had.push hr ho hx o8 G8, fun b hb => hb.elim (h.new b) fun h1 => by have := h.fp.size0; omega⟩
end
theorem had_next {S : SAbs} {k : Nat} {g : List Nat} {K : List (List V)} (hg : S.gs[k]? = some g) (hK : KeysOk S g K) : hadS S k ++ K.map (fun key => grpS S k key) = hadS S (k + 1) := by
  have e : S.gs[k]?.getD [] = g := by rw [hg]; rfl
  simp only [hadS]
  rw [e, ← hK.eq]
theorem had_take {S : SAbs} {k j : Nat} {K : List (List V)} {key : List V} (h : K[j]? = some key) : (hadS S k ++ (K.take j).map fun key => grpS S k key) ++ [grpS S k key] = hadS S k ++ (K.take (j + 1)).map fun key => grpS S k key := by
  rw [List.append_assoc, List.take_add_one, h]
  simp
set_option maxRecDepth 100000 in
set_option maxHeartbeats 4000000 in
theorem law_turns (gs : List (List Int)) (Ag : Option Addr) (m d : Nat) (rows : List (List V)) (A : Option Addr) (n c : Nat) (ops : List OpS) (Ao : Option Addr) (l co : Nat) (w : World) (hg : NumsAt w Ag m gs) (hm : m ≤ 1048576) (hgl : ∀ g ∈ gs, g.length ≤ 1048576)
    (ha : LAt RRow 1 w A n rows) (_hc : n ≤ c) (hn : n ≤ 1048576) (hr : ∀ r ∈ rows, r.length ≤ 1048576 ∧ smallR r) (hwf : ∀ r ∈ rows, wfR r) (ho : LAt ROp 3 w Ao l ops) (_hlc : l ≤ co) (hl : l ≤ 1048576) (hor : ∀ o ∈ ops, o.row.length ≤ 1048576 ∧ smallR o.row) (howf : ∀ o ∈ ops, wfR o.row) :
    Calls Tryz.prog 5 #[.slice Ag m d, .slice A n c, .slice Ao l co] w fun e w' => e = .returned (.bool true) ∧ Ext w w' := by
  have HGR := hide (groups_st d hg hm hgl)
  have HG := hide hg; have HGL := hide hgl; have HA := hide ha; have HR := hide hr; have HWF := hide hwf; have HO := hide ho; have HOR := hide hor; have HOW := hide howf
  have HRG := hide (fun (w1 : World) (x : Ext w w1) => ref_good 3 50 d (hg.ext x) hm hgl)
  clear hg hgl ha hr hwf ho hor howf
  go_enter Tryz.func5, Tryz.ntmps5
  by_cases hz : goodS 3 50 gs = 0
  · rw [hz] at HRG
    have HZ := hide hz
    clear hz
    go_wp2_with ((with_reducible refine HGR.out.mono ?_); rintro e w1 ⟨A1, c1, rfl, m1, x1⟩; have M1 := hide m1; have X1 := hide x1; have HNW := hide (new_good_st c1 (NumsAt.made m1) hm HGL.out HZ.out); clear m1 x1)
    refine HNW.out.mono ?_
    rintro e w3 ⟨x, B, rfl, x3, hst, hb, hlt⟩
    have hE3 := X1.out.trans x3
    have HS0 := hide ((FP.of hst (fun b hbb => by have h1 := X1.out.size; have h3 := hb b hbb; omega) hE3 hlt).mono (Q := fun _ => False) fun b hb => hb.elim)
    have HE3 := hide hE3
    clear hst hb hlt x3 HNW M1 X1 HGR hE3
    go_wp2_with fail
    refine (HRG.out w3 HE3.out).mono ?_
    rintro e w4 ⟨rfl, rfl⟩
    go_wp2_with fail
    obtain ⟨gN, hgN⟩ : ∃ gN, (gs.map fun g => g.map Int.toNat) = gN := ⟨_, rfl⟩
    rw [hgN] at HS0
    have HGN := hide (show gN.length = m by rw [← hgN, List.length_map]; exact HG.out.1.symm)
    have HM4 := hide (show m ≤ 4 by have := (goodS_ok HZ.out).2.2.1; rw [HG.out.1]; exact this)
    clear hgN HRG
    go_loopw [10, 56] (fun _ s56 w' => ∃ (i : Nat) (S : SAbs) (N : Nat), i ≤ n ∧ s56 = .int .i64 i ∧ Hid (FP w w' x S N (fun _ => False)) ∧ Hid (S.width = 3 ∧ S.most = 50 ∧ S.gs = gN ∧ S.old = none ∧ N ≤ i + 1)) (fun _ s56 _ => n - (intOf s56).toNat)
    case atStart => exact ⟨0, _, 1, by omega, rfl, HS0, rfl, rfl, rfl, rfl, by omega⟩
    case round =>
      clear HS0 HE3
      obtain ⟨i, S, N, hin, rfl, hF, hS⟩ := hrel
      by_cases hi : i < n
      · obtain ⟨b, off, r, A9, c9, rfl, hri, hcell, hrow⟩ := HA.out.rowS hi
        have hcell := hF.out.ext0.cell hcell
        have hrm := List.mem_of_getElem? hri
        have HARG := hide (show ArgR wr A9 r.length r from ⟨hrow.ext hF.out.ext0, (HR.out r hrm).1, (HR.out r hrm).2, HWF.out r hrm⟩)
        have HCP := hide (copy_argP (c := c9) HARG.out)
        have HPS := hide (putS_same S r)
        have HPO := hide (putS_old S r)
        have hin2 : (i : Int) < (n : Int) := by omega
        clear hri hrow hrm
        go_wp2_with ((with_reducible refine HCP.out.mono ?_); rintro e w2 ⟨A2, c2, rfl, ha2, hb2, hx2⟩; have HA2 := hide ha2; have HB2 := hide hb2; have X2 := hide hx2; clear ha2 hb2 hx2)
        have HP := hide ((hF.out.ext X2.out).put (by have := hS.out.2.2.2.2; omega) c2 HA2.out (fun a ha => .inr (HB2.out a ha)))
        refine HP.out.mono ?_
        rintro e w5 ⟨rfl, h5, -⟩
        have F5 := hide h5; clear h5 HP
        go_wp2_with fail
        go_roundw
        case rel => exact ⟨i + 1, _, N + 1, by omega, by go_num, F5.out.mono fun b hb => hb.elim, HPS.out.1.trans hS.out.1, HPS.out.2.1.trans hS.out.2.1, HPS.out.2.2.1.trans hS.out.2.2.1, HPO.out.trans hS.out.2.2.2.1, by have := hS.out.2.2.2.2; omega⟩
        case measure => simp [intOf]; omega
      · obtain rfl : i = n := by omega
        have hRW := hide hF.out.rowsM
        have HSZ := hide hF.out.size0
        have hfit := hide hF.out.fit
        obtain ⟨len, hlen⟩ : ∃ len, S.rows.length = len := ⟨_, rfl⟩
        rw [hlen] at hRW
        have HLEN := hide hlen
        have HL50 := hide (show len ≤ 50 by have := hfit.out.1; have := hS.out.2.1; omega)
        clear hlen
        go_wp2_with ((with_reducible refine hRW.out.mono ?_); rintro e w5 ⟨A5, c5, M5, rfl, hm5, h5, -, q5⟩; have F5 := hide h5; have Q5 := hide q5; have T5 := hide (show Told w5 (And' (fun _ => False) M5 w5.heap.size) A5 len c5 S.rows from MineV.told hm5 fun b h1 h2 => .inr ⟨h1, h2⟩); clear h5 hm5 q5)
        have HCA := hide (copy_all S.rows A5 len c5 w5 T5.out.lat (by have := HL50.out; omega) (fun r hr => by have := fit_small (hfit.out.2.1 r hr) (by rw [hS.out.1]; omega); omega))
        go_wp2_with fail
        refine HCA.out.mono ?_
        rintro e w6 h6
        obtain ⟨A6, c6, he6, x6, q6⟩ := told_retrows h6
        rw [HLEN.out] at he6
        subst he6
        have HT0 := hide (show TrI w x S (N + 1) S.rows [] A6 len c6 (And' (And' (fun _ => False) M5 w5.heap.size) w5.heap.size w6.heap.size) none 0 0 w6 from ⟨F5.out.ext x6, by rw [← HLEN.out]; exact q6 _ fun b h1 h2 => .inr ⟨h1, h2⟩, HadAt.nil _ _, fun b hb => by
          have h1 := HSZ.out; have h2 := Q5.out; have h3 := F5.out.size0
          rcases hb with (hb | hb) | hb
          · exact hb.elim
          · omega
          · omega⟩)
        clear hRW HCA T5 F5 x6 h6 q6 HSZ Q5
        generalize And' (And' (fun _ => False) M5 w5.heap.size) w5.heap.size w6.heap.size = P6 at *
        go_wp2_with fail
        go_loopw [12, 13, 70] (fun s12 _ s70 w' => ∃ (k N2 hn hc : Nat) (hA : Option Addr) (P : Nat → Prop), k ≤ m ∧ s70 = .int .i64 k ∧ s12 = .slice hA hn hc ∧ Hid (TrI w x S N2 S.rows (hadS S k) A6 len c6 P hA hn hc w') ∧ Hid (N2 ≤ N + 1 + 50 * k)) (fun _ _ s70 _ => m - (intOf s70).toNat)
        case atStart => exact ⟨0, N + 1, 0, 0, none, P6, by omega, rfl, rfl, HT0, hide (by omega)⟩
        case round =>
          clear HT0
          obtain ⟨k, N2, hn', hc, hA, P, hkm, rfl, rfl, hT, hN2⟩ := hrel
          by_cases hk : k < m
          · obtain ⟨g, hgk⟩ : ∃ g, S.gs[k]? = some g := ⟨_, List.getElem?_eq_getElem (by rw [hS.out.2.2.1]; have := HGN.out; omega)⟩
            have HGK := hide hgk
            have hkm2 : (k : Int) < (m : Int) := by omega
            have HKY := hide (hT.out.fp.keys hgk)
            clear hgk
            go_upto_region 17 with ((with_reducible refine HKY.out.mono ?_); rintro e w7 ⟨A7, c7, K, hK, rfl, hm7, x7⟩; have HK := hide hK; have X7 := hide x7; have M7 := hide hm7; clear hK hm7 x7)
            have HT7 := hide (hT.out.ext X7.out)
            have K7 := hide (show Told w7 (And' P wr.heap.size w7.heap.size) A7 K.length c7 K from M7.out.told fun b h1 h2 => .inr ⟨h1, h2⟩)
            obtain ⟨P7, hP7⟩ : ∃ P7, And' P wr.heap.size w7.heap.size = P7 := ⟨_, rfl⟩
            rw [hP7] at HT7 K7
            have hkl := hide (show K.length ≤ 50 by have h1 := keysS_len S g; have h2 := HK.out.eq; have h3 := HLEN.out; have h4 := HL50.out; rw [← h2] at h1; omega)
            have hhl := hide (show (hadS S k).length ≤ 200 by have h1 := hadS_len S k; have h3 := HLEN.out; have h4 := HL50.out; have h5 := HM4.out; have h6 : k * S.rows.length ≤ 4 * 50 := Nat.mul_le_mul (by omega) (by omega); omega)
            clear hP7 HKY X7 M7 hT
            go_wp2_with fail
            go_loopw [12, 81] (fun s12 s81 w' => ∃ (j N3 hn hc : Nat) (hA : Option Addr) (P : Nat → Prop), j ≤ K.length ∧ s81 = .int .i64 j ∧ s12 = .slice hA hn hc ∧ Hid (TrI w x S N3 S.rows (hadS S k ++ (K.take j).map fun key => grpS S k key) A6 len c6 P hA hn hc w') ∧ Hid (Told w' P A7 K.length c7 K) ∧ Hid (N3 ≤ N2 + j)) (fun _ s81 _ => K.length - (intOf s81).toNat)
            case atStart => exact ⟨0, N2, hn', hc, hA, P7, by omega, rfl, rfl, by simpa using HT7, K7, hide (by omega)⟩
            case round =>
              clear HT7 K7
              obtain ⟨j, N3, hn3, hc3, hA3, P3, hjk, rfl, rfl, hT3, hK3, hN3⟩ := hrel
              by_cases hj : j < K.length
              · obtain ⟨key, hkey⟩ : ∃ key, K[j]? = some key := ⟨_, List.getElem?_eq_getElem hj⟩
                have hgood := HK.out.good key (List.mem_of_getElem? hkey)
                obtain ⟨b, off, A9, c9, rfl, kc, hap⟩ := hK3.out.argP hkey (key_small hgood) hgood.small hgood.wf
                obtain ⟨F, hF⟩ : ∃ F, grpS S k key = F := ⟨_, rfl⟩
                obtain ⟨fl, hfl⟩ : ∃ fl, F.length = fl := ⟨_, rfl⟩
                have hGR := hT3.out.fp.groupM (by have := hN3.out; have := hN2.out; have := hS.out.2.2.2.2; have := HM4.out; have := hkl.out; omega) (k := k) (by rw [hS.out.2.2.1]; have := HGN.out; omega) c9 hap.1
                rw [hF, hfl] at hGR
                have HGR := hide hGR
                have HFF := hide (show ∀ q ∈ F, q.length ≤ 16777216 from fun q hq => by
                  rw [← hF] at hq
                  unfold grpS at hq
                  rw [HGK.out] at hq
                  have := fit_small (hfit.out.2.1 q (List.mem_filter.1 hq).1) (by rw [hS.out.1]; omega)
                  omega)
                have HFL := hide hfl; have HFE := hide hF; have HKEY := hide hkey
                have hfl50 := hide (show fl ≤ 50 from by
                  have e : grpS S k key = S.rows.filter fun r => sameR (keyR g r) key := by unfold grpS; rw [HGK.out]
                  rw [← hfl, ← hF, e]
                  have h1 := List.length_filter_le (fun r => sameR (keyR g r) key) S.rows
                  have h2 := HLEN.out; have h3 := HL50.out
                  omega)
                have hjk2 : (j : Int) < (K.length : Int) := by omega
                clear hkey hgood hap hF hfl hGR
                go_upto_region 21 with ((with_reducible refine HGR.out.mono ?_); rintro e w8 ⟨A8, c8, M8, rfl, hm8, h8, hk8, q8⟩; have F8 := hide h8; have KP8 := hide hk8; have Q8 := hide q8; have L8 := hide (show Told w8 (And' P3 M8 w8.heap.size) A8 fl c8 F from MineV.told hm8 fun b h1 h2 => .inr ⟨h1, h2⟩); clear hm8 h8 hk8 q8)
                have T8 := hide (hT3.out.step F8.out KP8.out (fun b hb => .inl hb) (fun b hb => hb.elim (hT3.out.new b) fun h1 => by have := hT3.out.fp.size0; have := Q8.out; omega))
                have K8 := hide (hK3.out.keep KP8.out (Q := And' P3 M8 w8.heap.size) fun b hb => .inl hb)
                obtain ⟨P8, hP8⟩ : ∃ P8, And' P3 M8 w8.heap.size = P8 := ⟨_, rfl⟩
                rw [hP8] at T8 K8 L8
                clear hP8 F8 KP8 Q8 HGR kc hT3 hK3
                have HCA := hide (copy_all F A8 fl c8 w8 L8.out.lat (by have := hfl50.out; omega) HFF.out)
                obtain ⟨i0, hi0, hz0, hz1, hz2⟩ := info_parts infoRR
                have hn3b := hide (show hn3 ≤ 250 from by
                  have h1 := T8.out.had.1
                  rw [List.length_append, List.length_map] at h1
                  have h2 := hhl.out; have h3 := hkl.out
                  have h4 := List.length_take_le j K
                  omega)
                go_wp2_with fail
                refine HCA.out.mono ?_
                rintro e w9 h9
                obtain ⟨A10, c10, rfl, x9, h9⟩ := told_retrows h9
                have T9 := T8.out.ext x9
                have K9 := K8.out.ext x9 (Q := And' P8 w8.heap.size w9.heap.size) fun b hb => .inl hb
                have L9 := h9 (And' P8 w8.heap.size w9.heap.size) fun b h1 h2 => .inr ⟨h1, h2⟩
                have x10 := Ext.alloc w9 (.cells #[.slice A10 F.length c10] 22)
                have T10 := hide (T9.ext x10)
                have K10 := hide (K9.ext x10 (Q := And' (And' P8 w8.heap.size w9.heap.size) w9.heap.size (w9.alloc (.cells #[.slice A10 F.length c10] 22)).heap.size) fun b hb => .inl hb)
                have L10 := hide (L9.ext x10 (Q := And' (And' P8 w8.heap.size w9.heap.size) w9.heap.size (w9.alloc (.cells #[.slice A10 F.length c10] 22)).heap.size) fun b hb => .inl hb)
                have hs := (Blk.new w9 22 #[.slice A10 F.length c10]).sl (n := 1) (size := 1) rfl
                have HS10 := hide hs
                have HONE := hide (show OneCells [Value.slice A10 F.length c10] from fun v hv => by simp at hv; rw [hv]; rfl)
                have hHad := T10.out.had
                obtain ⟨-, xs, ho, hx⟩ := hHad
                have OX := hide (And.intro ho hx)
                clear T9 K9 L9 x10 hs x9 h9 HCA T8 K8 L8 ho hx
                have hk50 := hkl.out
                go_wp2_with (at_builtin; refine wpList_append_b rfl (.tmp 92) (.tmp 95) _ rfl _ 22 i0 _ 1 24 Tryz.underlying59 hi0 hz0 hz1 hz2 rfl (by omega) (.slice hA3 hn3 hc3) hn3 xs rfl OX.out.1 _ 1 1 _ rfl HS10.out HONE.out (by have := hn3b.out; unfold maxLen; omega) (by have := hn3b.out; omega) ?_; intro A11 c11 w11 own11 G11 C11)
                have hTP := T10.out.push L10.out OX.out.1 OX.out.2 own11.out G11.out C11.out
                have hKP := K10.out.grown OX.out.1.own G11.out (Q := And' (And' (And' P8 w8.heap.size w9.heap.size) w9.heap.size (w9.alloc (.cells #[.slice A10 F.length c10] 22)).heap.size) (w9.alloc (.cells #[.slice A10 F.length c10] 22)).heap.size w11.heap.size) fun b hb => .inl hb
                have hht := had_take (S := S) (k := k) HKEY.out
                rw [HFE.out] at hht
                rw [hht] at hTP
                have HTP := hide hTP; have HKP := hide hKP
                clear hTP hKP hht OX L10 K10 T10 own11 G11 C11 HS10 HONE h9 hi0 hz0 hz1 hz2
                go_roundw
                case rel => exact ⟨j + 1, N3 + 1, hn3 + 1, c11, A11, _, by omega, by go_num, rfl, HTP, HKP, hide (by have := hN3.out; omega)⟩
                case measure => simp [intOf]; omega
              · obtain rfl : j = K.length := by omega
                have hT4 := hT3.out
                rw [List.take_length, had_next HGK.out HK.out] at hT4
                have HT4 := hide hT4
                clear hT4 hT3
                go_wp2_with fail
                go_roundw
                case rel => exact ⟨k + 1, N3, hn3, hc3, hA3, P3, by omega, by go_num, rfl, HT4, hide (by have := hN3.out; have := hN2.out; have := hkl.out; omega)⟩
                case measure => simp [intOf]; omega
          · obtain rfl : k = m := by omega
            have hcom : rollS S = (S, 65) := by unfold rollS; rw [hS.out.2.2.2.1]
            have hbeg : beginS S = ({ S with old := some S.rows }, 0) := by unfold beginS; rw [hS.out.2.2.2.1]
            have HCO := hide hcom
            have hHL := hide (show (hadS S k).length ≤ 200 by have h1 := hadS_len S k; have h3 := HLEN.out; have h4 := HL50.out; have h5 := HM4.out; have h6 : k * S.rows.length ≤ 4 * 50 := Nat.mul_le_mul (by omega) (by omega); omega)
            have HNB := hide (show N2 ≤ i + 300 by have := hN2.out; have := hS.out.2.2.2.2; have := HM4.out; omega)
            have H1 := hide (hT.out.fp.roll (by have := HNB.out; omega))
            rw [hcom] at H1
            have HB0 := hide hbeg
            clear hcom hbeg hN2
            go_wp2_with fail
            refine H1.out.mono ?_
            rintro e w7 ⟨rfl, h7⟩
            have HT7 := hide (hT.out.keep h7)
            have H2 := hide (h7.1.begin)
            rw [HB0.out] at H2
            clear h7 H1 hT
            go_wp2_with fail
            refine H2.out.mono ?_
            rintro e w8 ⟨rfl, h8⟩
            have HT8 := hide (HT7.out.keep h8)
            have H3 := hide (h8.1.begin)
            rw [show beginS { S with old := some S.rows } = ({ S with old := some S.rows }, 64) from rfl] at H3
            clear h8 H2 HT7
            go_wp2_with fail
            refine H3.out.mono ?_
            rintro e w9 ⟨rfl, h9⟩
            have HT9 := hide (HT8.out.keep h9)
            clear h9 H3 HT8
            go_wp2_with fail
            obtain ⟨hl9, hHL9⟩ : ∃ L0, hadS S k = L0 := ⟨_, rfl⟩
            have HHL := hide hHL9
            rw [hHL9] at HT9 hHL
            clear hHL9
            go_loopw [114] (fun s114 w' => ∃ (q : Nat) (S2 : SAbs) (N3 : Nat) (P : Nat → Prop), q ≤ l ∧ s114 = .int .i64 q ∧ Hid (TrI w x S2 N3 S.rows hl9 A6 len c6 P hA hn' hc w') ∧ Hid (S2.width = S.width ∧ S2.most = S.most ∧ S2.gs = S.gs ∧ S2.old = some S.rows ∧ N3 ≤ N2 + 3 + 2 * q)) (fun s114 _ => l - (intOf s114).toNat)
            case atStart => exact ⟨0, _, _, P, by omega, rfl, HT9, rfl, rfl, rfl, rfl, by omega⟩
            case round =>
              clear HT9
              obtain ⟨q, S2, N3, P3, hql, rfl, hT3, hS3⟩ := hrel
              by_cases hq : q < l
              · obtain ⟨b, off, o, A9, c9, rfl, hoq, hbl, c0, c1, c2, hrow⟩ := (HO.out.ext ROp.stab hT3.out.fp.ext0).op hq
                have hom := List.mem_of_getElem? hoq
                have hor := HOR.out o hom; have how := HOW.out o hom
                obtain ⟨kind, kk, row⟩ := o
                dsimp only at c0 c1 c2 hrow hor how
                have hE1 := Ext.alloc wr (.cells #[.int .i64 kind, .int .i64 kk, .slice A9 row.length c9] 62)
                have HARG := hide (show ArgR (wr.alloc (.cells #[.int .i64 kind, .int .i64 kk, .slice A9 row.length c9] 62)) A9 row.length row from ⟨hrow.ext hE1, hor.1, hor.2, how⟩)
                have HT4 := hide (hT3.out.ext hE1)
                have HCP := hide (copy_argP (c := c9) HARG.out)
                have HN3 := hide (show N3 + 2 ≤ 8388608 by have := hS3.out.2.2.2.2; have := HNB.out; omega)
                have hql2 : (q : Int) < (l : Int) := by omega
                clear hoq hom hor how hrow hE1 hT3
                by_cases hk1 : kind = 1
                · subst hk1
                  have HPS := hide (putS_same S2 row)
                  have HPO := hide (putS_old S2 row)
                  go_wp2_with ((with_reducible refine HCP.out.mono ?_); rintro e w5 ⟨A5', c5', rfl, ha2, hb2, hx2⟩; have HA2 := hide ha2; have HB2 := hide hb2; have X2 := hide hx2; clear ha2 hb2 hx2)
                  have HT5 := hide (HT4.out.ext X2.out)
                  have HP := hide (HT5.out.fp.put (by have := HN3.out; omega) c5' HA2.out (fun a ha => .inr (HB2.out a ha)))
                  refine HP.out.mono ?_
                  rintro e w6 ⟨rfl, h6⟩
                  have HT6 := hide (HT5.out.keep h6)
                  clear h6 HP HT5 HT4
                  go_wp2_with fail
                  go_roundw
                  case rel => exact ⟨q + 1, _, N3 + 1, _, by omega, by go_num, HT6, HPS.out.1.trans hS3.out.1, HPS.out.2.1.trans hS3.out.2.1, HPS.out.2.2.1.trans hS3.out.2.2.1, HPO.out.trans hS3.out.2.2.2.1, by have := hS3.out.2.2.2.2; omega⟩
                  case measure => simp [intOf]; omega
                · have hk1' : (kind == 1) = false := by simpa using hk1
                  by_cases hk2 : kind = 2
                  · subst hk2
                    have HPS := hide (dropS_same S2 row)
                    go_wp2_with ((with_reducible refine HCP.out.mono ?_); rintro e w5 ⟨A5', c5', rfl, ha2, hb2, hx2⟩; have HA2 := hide ha2; have HB2 := hide hb2; have X2 := hide hx2; clear ha2 hb2 hx2)
                    have HT5 := hide (HT4.out.ext X2.out)
                    have HP := hide (HT5.out.fp.drop (by have := HN3.out; omega) c5' HA2.out (fun a ha => .inr (HB2.out a ha)))
                    refine HP.out.mono ?_
                    rintro e w6 ⟨rfl, h6⟩
                    have HT6 := hide (HT5.out.keep h6)
                    clear h6 HP HT5 HT4
                    go_wp2_with fail
                    go_roundw
                    case rel => exact ⟨q + 1, _, N3 + 1, _, by omega, by go_num, HT6, HPS.out.1.trans hS3.out.1, HPS.out.2.1.trans hS3.out.2.1, HPS.out.2.2.1.trans hS3.out.2.2.1, HPS.out.2.2.2.trans hS3.out.2.2.2.1, by have := hS3.out.2.2.2.2; omega⟩
                    case measure => simp [intOf]; omega
                  · have hk2' : (kind == 2) = false := by simpa using hk2
                    by_cases hk8 : kind = 8
                    · subst hk8
                      have HP := hide (HT4.out.fp.clear HN3.out)
                      go_wp2_with fail
                      refine HP.out.mono ?_
                      rintro e w6 ⟨rfl, h6⟩
                      have HT6 := hide (HT4.out.keep h6)
                      clear h6 HP HT4
                      go_wp2_with fail
                      go_roundw
                      case rel => exact ⟨q + 1, _, N3 + 2, _, by omega, by go_num, HT6, hS3.out.1, hS3.out.2.1, hS3.out.2.2.1, hS3.out.2.2.2.1, by have := hS3.out.2.2.2.2; omega⟩
                      case measure => simp [intOf]; omega
                    · have hk8' : (kind == 8) = false := by simpa using hk8
                      go_wp2_with fail
                      go_roundw
                      case rel => exact ⟨q + 1, _, N3, _, by omega, by go_num, HT4, hS3.out.1, hS3.out.2.1, hS3.out.2.2.1, hS3.out.2.2.2.1, by have := hS3.out.2.2.2.2; omega⟩
                      case measure => simp [intOf]; omega
              · obtain rfl : q = l := by omega
                have hr2 : rollS S2 = (S, 0) := by
                  unfold rollS
                  rw [hS3.out.2.2.2.1]
                  have e1 := hS3.out.1; have e2 := hS3.out.2.1; have e3 := hS3.out.2.2.1; have e4 := hS.out.2.2.2.1
                  obtain ⟨a1, a2, a3, a4, a5⟩ := S
                  obtain ⟨b1, b2, b3, b4, b5⟩ := S2
                  simp only at e1 e2 e3 e4
                  subst e1; subst e2; subst e3; subst e4
                  rfl
                have hcm : commitS S = (S, 65) := by unfold commitS; rw [hS.out.2.2.2.1]
                have HN3 := hide (show N3 ≤ 4000000 by have := hS3.out.2.2.2.2; have := HNB.out; omega)
                have H1 := hide (hT3.out.fp.roll (by have := HN3.out; omega))
                rw [hr2] at H1
                have HCM := hide hcm
                clear hr2 hcm
                go_wp2_with fail
                refine H1.out.mono ?_
                rintro e w7 ⟨rfl, h7⟩
                have HT7 := hide (hT3.out.keep h7)
                have H2 := hide (h7.1.commit)
                rw [HCM.out] at H2
                clear h7 H1 hT3
                go_wp2_with fail
                refine H2.out.mono ?_
                rintro e w8 ⟨rfl, h8⟩
                have HT8 := hide (HT7.out.keep h8)
                have H3 := hide h8.1.rowsM
                rw [HLEN.out] at H3
                clear h8 H2 HT7
                go_wp2_with fail
                refine H3.out.mono ?_
                rintro e w9 ⟨A9, c9, M9, rfl, hm9, h9, hk9, q9⟩
                have HT9 := hide (HT8.out.step h9 hk9 (fun b hb => .inl hb) (fun b hb => hb.elim (HT8.out.new b) fun h1 => by have := HT8.out.fp.size0; omega))
                have L9 := hide (show Told w9 (And' P3 M9 w9.heap.size) A9 len c9 S.rows from MineV.told hm9 fun b h1 h2 => .inr ⟨h1, h2⟩)
                have HSA := hide (same_all S.rows S.rows A9 A6 len len c9 c6 w9 L9.out.lat HT9.out.was.lat (by have := HL50.out; omega) (fun r hr => by have := fit_small (hfit.out.2.1 r hr) (by rw [hS.out.1]; omega); omega))
                rw [sameRs_iff.2 rfl] at HSA
                clear hm9 h9 hk9 q9 H3 HT8 L9
                go_wp2_with fail
                refine HSA.out.mono ?_
                rintro e w10 ⟨rfl, x10⟩
                have HT10 := hide (HT9.out.ext x10)
                clear x10 HSA HT9
                go_wp2_with fail
                rw [← HHL.out] at HT10 hHL
                obtain ⟨P10, hP10⟩ : ∃ P10, And' (And' P3 M9 w9.heap.size) w9.heap.size w10.heap.size = P10 := ⟨_, rfl⟩
                rw [hP10] at HT10
                clear hP10 HHL
                go_loopw [22, 156] (fun s22 s156 w' => ∃ (j N4 : Nat) (P : Nat → Prop), j ≤ k ∧ s22 = .int .i64 (hadS S j).length ∧ s156 = .int .i64 j ∧ Hid (TrI w x S N4 S.rows (hadS S k) A6 len c6 P hA hn' hc w') ∧ Hid (N4 ≤ 4000003 + 50 * j)) (fun _ s156 _ => k - (intOf s156).toNat)
                case atStart => exact ⟨0, _, P10, by omega, rfl, rfl, HT10, hide (by have := HN3.out; omega)⟩
                case round =>
                  clear HT10
                  obtain ⟨j, N4, P4, hjk, rfl, rfl, hT4, hN4⟩ := hrel
                  by_cases hj : j < k
                  · obtain ⟨g, hgk⟩ : ∃ g, S.gs[j]? = some g := ⟨_, List.getElem?_eq_getElem (by rw [hS.out.2.2.1]; have := HGN.out; omega)⟩
                    have HGK := hide hgk
                    have hjk2 : (j : Int) < (k : Int) := by omega
                    have HKY := hide (hT4.out.fp.keys hgk)
                    clear hgk
                    go_upto_region 44 with ((with_reducible refine HKY.out.mono ?_); rintro e w11 ⟨A7, c7, K, hK, rfl, hm7, x7⟩; have HK := hide hK; have X7 := hide x7; have M7 := hide hm7; clear hK hm7 x7)
                    have HT7 := hide (hT4.out.ext X7.out)
                    have K7 := hide (show Told w11 (And' P4 wr.heap.size w11.heap.size) A7 K.length c7 K from M7.out.told fun b h1 h2 => .inr ⟨h1, h2⟩)
                    obtain ⟨P7, hP7⟩ : ∃ P7, And' P4 wr.heap.size w11.heap.size = P7 := ⟨_, rfl⟩
                    rw [hP7] at HT7 K7
                    have hkl := hide (show K.length ≤ 50 by have h1 := keysS_len S g; have h2 := HK.out.eq; have h3 := HLEN.out; have h4 := HL50.out; rw [← h2] at h1; omega)
                    have hjl := hide (show (hadS S j).length ≤ 200 by have h1 := (hadS_pre S hjk).length_le; have h2 := hHL.out; omega)
                    have HKN := hide (show ∀ (i : Nat) (key : List V), K[i]? = some key → (hadS S k)[(hadS S j).length + i]? = some (grpS S j key) from fun i key hi => hadS_at S hj (by rw [HGK.out, show ((some g).getD []) = g from rfl, ← HK.out.eq]; exact hi))
                    have hnx := had_next HGK.out HK.out
                    have HNX := hide (show (hadS S (j + 1)).length = (hadS S j).length + K.length by rw [← hnx, List.length_append, List.length_map])
                    obtain ⟨hb, hhb⟩ : ∃ hb, (hadS S j).length = hb := ⟨_, rfl⟩
                    rw [hhb] at hjl HKN HNX ⊢
                    clear hP7 HKY X7 M7 hT4 hnx hhb
                    go_wp2_with fail
                    go_loopw [22, 167] (fun s22 s167 w' => ∃ (q N5 : Nat) (P : Nat → Prop), q ≤ K.length ∧ s22 = .int .i64 (hb + q : Nat) ∧ s167 = .int .i64 q ∧ Hid (TrI w x S N5 S.rows (hadS S k) A6 len c6 P hA hn' hc w') ∧ Hid (Told w' P A7 K.length c7 K) ∧ Hid (N5 ≤ N4 + q)) (fun _ s167 _ => K.length - (intOf s167).toNat)
                    case atStart => exact ⟨0, N4, P7, by omega, rfl, rfl, HT7, K7, hide (by omega)⟩
                    case round =>
                      clear HT7 K7
                      obtain ⟨q, N5, P5, hqk, rfl, rfl, hT5, hK5, hN5⟩ := hrel
                      by_cases hq2 : q < K.length
                      · obtain ⟨key, hkey⟩ : ∃ key, K[q]? = some key := ⟨_, List.getElem?_eq_getElem hq2⟩
                        have hgood := HK.out.good key (List.mem_of_getElem? hkey)
                        obtain ⟨b, off, A9', c9', rfl, kc, hap⟩ := hK5.out.argP hkey (key_small hgood) hgood.small hgood.wf
                        obtain ⟨F, hF⟩ : ∃ F, grpS S j key = F := ⟨_, rfl⟩
                        have hat := HKN.out q key hkey
                        have hGR := hT5.out.fp.groupM (by have := hN5.out; have := hN4.out; have := HM4.out; have := hkl.out; omega) (k := j) (by rw [hS.out.2.2.1]; have := HGN.out; omega) c9' hap.1
                        rw [hF] at hGR hat
                        have HFF := hide (show ∀ r ∈ F, r.length ≤ 140737488355328 from fun r hr => by
                          have e : grpS S j key = S.rows.filter fun r => sameR (keyR g r) key := by unfold grpS; rw [HGK.out]
                          rw [← hF, e] at hr
                          have := fit_small (hfit.out.2.1 r (List.mem_filter.1 hr).1) (by rw [hS.out.1]; omega)
                          omega)
                        have HFL := hide (show F.length ≤ 50 from by
                          have e : grpS S j key = S.rows.filter fun r => sameR (keyR g r) key := by unfold grpS; rw [HGK.out]
                          rw [← hF, e]
                          have h1 := List.length_filter_le (fun r => sameR (keyR g r) key) S.rows
                          have h2 := HLEN.out; have h3 := HL50.out
                          omega)
                        obtain ⟨fl, hfl⟩ : ∃ fl, F.length = fl := ⟨_, rfl⟩
                        rw [hfl] at hGR HFL
                        have HGR := hide hGR; have HAT := hide hat; have HFLE := hide hfl
                        have hqk2 : (q : Int) < (K.length : Int) := by omega
                        have hlt : hb + q < hn' := by have h1 := (List.getElem?_eq_some_iff.1 hat).1; have h2 := hT5.out.had.1; omega
                        clear hkey hgood hap hF hGR hat hfl
                        go_upto_region 48 with ((with_reducible refine HGR.out.mono ?_); rintro e w12 ⟨A8, c8, M8, rfl, hm8, h8, hk8, q8⟩; have F8 := hide h8; have KP8 := hide hk8; have Q8 := hide q8; have L8 := hide (show Told w12 (And' P5 M8 w12.heap.size) A8 fl c8 F from MineV.told hm8 fun b h1 h2 => .inr ⟨h1, h2⟩); clear hm8 h8 hk8 q8)
                        have T8 := hide (hT5.out.step F8.out KP8.out (fun b hb => .inl hb) (fun b hb => hb.elim (hT5.out.new b) fun h1 => by have := hT5.out.fp.size0; have := Q8.out; omega))
                        have K8 := hide (hK5.out.keep KP8.out (Q := And' P5 M8 w12.heap.size) fun b hb => .inl hb)
                        obtain ⟨P8, hP8⟩ : ∃ P8, And' P5 M8 w12.heap.size = P8 := ⟨_, rfl⟩
                        rw [hP8] at T8 K8 L8
                        clear hP8 F8 KP8 Q8 HGR kc hT5 hK5
                        obtain ⟨bh, Ai, ci, rfl, hc1, hti⟩ := T8.out.had.get HAT.out
                        rw [HFLE.out] at hc1 hti
                        have HSA := hide (same_all F F A8 Ai fl fl c8 ci w12 L8.out.lat hti.lat (by have := HFL.out; omega) HFF.out)
                        rw [sameRs_iff.2 rfl] at HSA
                        have hlt2 : ((hb + q : Nat) : Int) < (hn' : Int) := by omega
                        clear hti
                        go_wp2_with fail
                        refine HSA.out.mono ?_
                        rintro e w13 ⟨rfl, x13⟩
                        have T9 := hide (T8.out.ext x13)
                        have K9 := hide (K8.out.ext x13 (Q := And' P8 w12.heap.size w13.heap.size) fun b hb => .inl hb)
                        have hk50 := hkl.out; have hj200 := hjl.out
                        clear x13 HSA T8 K8 hc1
                        go_wp2_with fail
                        go_roundw
                        case rel => exact ⟨q + 1, N5 + 1, _, by omega, by go_num, by go_num, T9, K9, hide (by have := hN5.out; omega)⟩
                        case measure => simp [intOf]; omega
                      · obtain rfl : q = K.length := by omega
                        rw [show ((hb + K.length : Nat) : Int) = ((hadS S (j + 1)).length : Int) by rw [HNX.out]]
                        go_wp2_with fail
                        go_roundw
                        case rel => exact ⟨j + 1, N5, P5, by omega, rfl, by go_num, hT5, hide (by have := hN5.out; have := hN4.out; have := hkl.out; omega)⟩
                        case measure => simp [intOf]; omega
                  · obtain rfl : j = k := by omega
                    have hnn := hT4.out.had.1
                    rw [← hnn]
                    have X2 := hide hT4.out.fp.ext0
                    clear hnn
                    go_wp2_with fail
                    refine (awake_st _).mono ?_
                    rintro e w9' ⟨rfl, x9⟩
                    have X9 := hide (X2.out.trans x9)
                    clear x9
                    go_wp2_with fail
                    go_ret
                    exact ⟨rfl, X9.out⟩
  · have HZ := hide hz
    clear hz
    go_wp2_with ((with_reducible refine HGR.out.mono ?_); rintro e w1 ⟨A1, c1, rfl, m1, x1⟩; have M1 := hide m1; have X1 := hide x1; have HNW := hide (new_bad_st c1 (NumsAt.made m1) hm HGL.out HZ.out); clear m1 x1)
    refine HNW.out.mono ?_
    rintro e w3 ⟨rfl, x3⟩
    have HE3 := hide (X1.out.trans x3)
    have hne : (goodS 3 50 gs != 0) = true := by have := HZ.out; simpa using this
    have hRG := HRG.out w3 HE3.out
    obtain ⟨F, hF⟩ : ∃ F, goodS 3 50 gs = F := ⟨_, rfl⟩
    rw [hF] at hne hRG ⊢
    have HRG2 := hide hRG
    clear hF x3 M1 X1 hRG HRG HNW
    go_wp2_with fail
    refine HRG2.out.mono ?_
    rintro e w4 ⟨rfl, rfl⟩
    go_wp2_with fail
    refine (awake_st _).mono ?_
    rintro e w5 ⟨rfl, x5⟩
    have X5 := hide (HE3.out.trans x5)
    clear x5
    go_wp2_with fail
    go_ret
    exact ⟨rfl, X5.out⟩
end Go.Proofs.YtifloafhpeeepaaGreat
