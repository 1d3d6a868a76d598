/-
  node: a meet's turn, walked.
  node: what a meet's turn of a side's row leaves of the live rows.
-/
import Derived.Test.YtahdiiaadjdmcaaNgD
namespace Go.Proofs.Ytahdiiaadjdmcaa
open Go.RowKit

theorem els_in {P : Nat → Prop} {w : World} {cells : List Value} {rows : List (List V)} (h : Els (fun w cs r => ∃ A n c, cs = [.slice A n c] ∧ OwnH w P 59 3 n (.slice A n c) (cellsR r)) 1 w cells rows) : ∀ v ∈ cells, ∀ g, v.ownBlock = some g → P g := by
  induction h with
  | nil => intro v hv; cases hv
  | cons h1 h2 h3 h4 ih =>
    intro v hv g hg
    obtain ⟨A, n, c, rfl, ho⟩ := h3
    rcases List.mem_append.1 hv with hv | hv
    · obtain rfl := List.mem_singleton.1 hv
      exact ho.inB g hg
    · exact ih v hv g hg
theorem rows_els {P : Nat → Prop} {w : World} : ∀ {cells : List Value} {rows : List (List V)}, cells.length = rows.length → (∀ (i : Nat) (r : List V), rows[i]? = some r → ∃ Ai ci, cells[i]? = some (.slice Ai r.length ci) ∧ OwnH w P 59 3 r.length (.slice Ai r.length ci) (cellsR r)) →
    Els (fun w cs r => ∃ A n c, cs = [.slice A n c] ∧ OwnH w P 59 3 n (.slice A n c) (cellsR r)) 1 w cells rows
  | [], [], _, _ => .nil
  | [], _ :: _, h, _ => by simp at h
  | _ :: _, [], h, _ => by simp at h
  | u :: cells, r :: rows, hl, h => by
    obtain ⟨A, c, h1, h2⟩ := h 0 r rfl
    obtain rfl : u = .slice A r.length c := by simpa using h1
    exact .cons (cs := [.slice A r.length c]) rfl (fun v hv => by obtain rfl := List.mem_singleton.1 hv; rfl) ⟨A, r.length, c, rfl, h2⟩ (rows_els (by simpa using hl) fun i q hq => h (i + 1) q (by simpa using hq))
set_option maxRecDepth 100000 in
set_option maxHeartbeats 4000000 in
theorem meet_turn_put {w : World} {lab : Lab} {K : NK} {v : NdV} {a : NAbs} {N : Nat} {G : Nat → World → (Nat → Prop) → Prop} {key : List V} {L : List (List V)} (hL : grpS (S2 K a) 0 key = L) (h : NdR w lab K v a N) (hk : K.kind = 3) (hN : N + 1 ≤ 8796093022208) (hLl : L.length ≤ 65536) (hLr : ∀ r ∈ L, Fit K.inn r)
    (hg0 : G 0 w (lab.own 1)) (hGc : ∀ i, LiveG (G i))
    (hcall : ∀ (i : Nat) (r : List V) (wr : World) (B : Nat → Prop) (A : Option Addr) (n c : Nat), L[i]? = some r → G i wr B → ArgR wr A n r → Aside B A → Calls Try.prog 73 #[.pointer (some ⟨v.x1, 0, none⟩), .slice A n c] wr fun e w' => (∃ y, e = .returned y) ∧ ∃ B', G (i + 1) w' B' ∧ (∀ b, B' b → B b ∨ wr.heap.size ≤ b) ∧ (∀ b, B' b → b < w'.heap.size) ∧ Chg B wr w')
    (hwd : K.inn ≤ 30) {A : Option Addr} {n : Nat} (c : Nat) (ha : ArgR w A n key) :
    Calls Try.prog 76 #[.pointer (some ⟨v.k, 0, none⟩), .slice A n c, .func (.func 73) #[.pointer (some ⟨v.x1, 0, none⟩)] #[]] w fun e w' => ∃ y lab', e = .returned y ∧ NdR w' lab' K v a (N + 1) ∧ G L.length w' (lab'.own 1) ∧ Step w lab w' lab' ∧ MovedAt w.heap.size lab'.dom w' L L y := by
  have hE1 := Ext.alloc w (.cells #[.slice none 0 0, .slice none 0 0] 53)
  have h1 := h.ext hE1
  have hgr := group_stA (h1.part 2 hk) (by omega) (k := 0) (by exact Nat.zero_lt_one) c (ha.ext hE1)
  rw [hL, show (Value.int .i64 ((0 : Nat) : Int)) = .int .i64 0 from rfl] at hgr
  have HG := hide hgr
  have RB := hide (Blk.new w 53 #[.slice none 0 0, .slice none 0 0])
  have k1 := (h1.meet hk).2.1
  have R1 := hide h1; have G1 := hide ((hGc 0).chg _ _ _ _ hg0 (Chg.of hE1 (B := fun _ => False)) fun _ _ x => x)
  have HE := hide hE1; have HRB := hide (show ¬ lab.dom w.heap.size from fun ⟨i, hi⟩ => by have := h.lt _ _ hi; omega)
  have HGC := hide hGc; have HCALL := hide hcall; have HLR := hide hLr
  clear h ha hg0 h1 hE1 hgr hGc hcall hLr hL
  obtain ⟨rb, hrb⟩ : ∃ rb, w.heap.size = rb := ⟨_, rfl⟩
  have HR := hide (Nat.le_of_eq hrb)
  rw [hrb] at RB HRB
  go_enter Try.func76, Try.ntmps76
  go_upto_region 1 with fail
  generalize hw1 : w.alloc (.cells #[.slice none 0 0, .slice none 0 0] 53) = w1 at *
  clear hrb hw1
  go_upto_region 3 with ((with_reducible refine HG.out.mono ?_); rintro e w2 ⟨A1, c1, rfl, T, hm, hs⟩; obtain ⟨lab2, r2, g2, st2, dT, tT, tS⟩ := R1.out.groupM (HGC.out 0) G1.out (Nat.le_succ N) hs; have HMT := hide hm; have R2 := hide r2; have G2 := hide g2; have ST2 := hide st2; have HT := hide (And.intro dT (And.intro tT tS)); clear hm hs r2 g2 st2 dT tT tS)
  have E3 := hide (Ext.alloc w2 (.cells #[.slice none 0 0, .slice none 0 0] 53))
  have OB := hide (Blk.new w2 53 #[.slice none 0 0, .slice none 0 0])
  obtain ⟨ob, hob⟩ : ∃ ob, w2.heap.size = ob := ⟨_, rfl⟩
  have told := HMT.out.toldA (P := Rg T w2.heap.size) fun b h1 h2 => ⟨h1, h2⟩
  obtain ⟨cells, hcl, hown, hap, hrow⟩ := (told.ext E3.out).cells
  have HCL := hide hcl; have HOW := hide hown; have HAP := hide hap; have HROW := hide hrow
  have HOBE := hide (Nat.le_of_eq hob); have HOBE2 := hide (Nat.le_of_eq hob.symm)
  rw [hob] at OB ⊢
  generalize w2.alloc (.cells #[.slice none 0 0, .slice none 0 0] 53) = w3 at *
  clear hob told hcl hown hap hrow k1 HMT
  have R3 := hide (R2.out.ext E3.out)
  have G3 := hide ((HGC.out 0).chg _ _ _ _ G2.out (Chg.of E3.out (B := fun _ => False)) fun _ _ x => x)
  have HSZ := hide (show rb < w1.heap.size ∧ w1.heap.size ≤ w2.heap.size ∧ ob < w3.heap.size from ⟨RB.out.lt, ST2.out.2.size, OB.out.lt⟩)
  have HOBD := hide (show ¬ lab2.dom ob from fun hd => by have := R2.out.lt _ _ hd.choose_spec; have := HOBE.out; omega)
  have RB3 := hide ((ST2.out.2.blk RB.out HRB.out).ext E3.out)
  have HRBD := hide (nd_far ST2.out HRB.out RB.out.lt)
  go_wp2_with fail
  go_loopw [11, 23] (fun _ s23 w' => ∃ (i : Nat) (lab4 : Lab), i ≤ L.length ∧ s23 = .int .i64 i ∧ Hid (NdR w' lab4 K v a (N + 1)) ∧ Hid (G i w' (lab4.own 1)) ∧ Hid (∀ b, lab4.dom b → lab2.dom b ∨ w3.heap.size ≤ b) ∧ Hid (MtI w3 w' lab4.dom (Rg T w2.heap.size) ob rb i L cells) ∧ Hid (Chg (fun b => lab2.dom b ∨ b = ob) w3 w')) (fun _ s23 _ => L.length - (intOf s23).toNat)
  case atStart =>
    refine ⟨0, lab2, by omega, rfl, R3, G3, (fun _ h => .inl h), ⟨none, 0, none, 0, fun _ => False, fun _ => False, [], OB.out, OwnH.nil _ _ _ _, OwnH.nil _ _ _ _, .nil, by unfold Apart; exact .nil, fun _ h => h.elim, fun _ h => h.elim (fun h => h.elim) fun h => h.elim⟩, Chg.refl _ _⟩
  case round =>
    obtain ⟨i, lab4, hi, rfl, hR, hG, hSt, hM, hCh⟩ := hrel
    by_cases hil : i < L.length
    · obtain ⟨AF, cF, AT, cT, PF, PT, cT2, hob, hF, hT, hTe, hTa, hd, hb⟩ := hM.out.out
      have HOB := hide hob; have HF := hide hF; have HTT := hide hT; have HTE := hide hTe; have HTA := hide hTa; have HD := hide hd; have HB := hide hb
      clear hob hF hT hTe hTa hd hb
      obtain ⟨r, hr⟩ : ∃ r, L[i]? = some r := ⟨_, List.getElem?_eq_getElem hil⟩
      obtain ⟨Ai, ci, hci, hrw⟩ := HROW.out i r hr
      have HRr := hide hr; have HCI := hide hci
      have hfit := HLR.out r (List.mem_of_getElem? hr)
      have hPg : ∀ b, Rg T w2.heap.size b → ¬ (lab2.dom b ∨ b = ob) := fun b hb hd => by
        have h1 := hb.1; have h2 := hb.2; have h3 := HOBE.out
        rcases hd with hd | hd
        · have := HT.out.1 b hd; omega
        · omega
      have hPg4 : ∀ b, Rg T w2.heap.size b → ¬ lab4.dom b := fun b hb hd => by
        rcases hSt.out b hd with h | h
        · exact hPg b hb (.inl h)
        · have h2 := hb.2; have h3 := E3.out.size; omega
      have HPG4 := hide hPg4
      have HRW := hide (hrw.chg hCh.out hPg)
      have HOWr := hide (HOW.out.chg hCh.out hPg)
      obtain ⟨gb, hA1, hgb, hgl, hgc, hgf⟩ := HOWr.out.at_ (by omega)
      subst hA1
      have e0 : wr.cell? ⟨gb, i, none⟩ = some (.slice Ai r.length ci) := hgc i _ hci
      have hlen : r.length ≤ 1048576 := by
        have h1 := hfit.1
        unfold fitsR at h1
        rw [Bool.and_eq_true, decide_eq_true_eq] at h1
        omega
      have HARG := hide (show ArgR wr Ai r.length r from ⟨RowAt.own HRW.out.own, hlen, hfit.2.1, hfit.2.2⟩)
      have HAS := hide (show Aside (lab4.own 1) Ai from fun x hx hb => hPg4 _ (HRW.out.inB x.block (by rw [hx]; rfl)) ⟨1, hb⟩)
      have HC := hide (HCALL.out i r wr (lab4.own 1) Ai r.length ci hr hG.out HARG.out HAS.out)
      have HLEN := hide hlen
      clear hr hci hrw hfit hPg hPg4 hgb hgl hgc hgf hlen
      go_upto_region 7 with ((with_reducible refine HC.out.mono ?_); rintro e w4 ⟨⟨y, rfl⟩, B', g1, g2, g3, g4⟩; obtain ⟨lab5, r5, g5, st5⟩ := hR.out.liveG (HGC.out (i + 1)) g1 g2 g3 g4; have R5 := hide r5; have G5 := hide g5; have ST5 := hide st5; clear g1 g2 g3 g4 r5 g5 st5)
      have hob4 : ¬ lab4.dom ob := fun hd => by
        rcases hSt.out ob hd with h | h
        · exact HOBD.out h
        · have := HSZ.out; omega
      have hfar : ∀ b, PF b ∨ PT b → ¬ lab4.dom b := fun b h => (HB.out b h).2.2.1
      have OB4 := hide (ST5.out.2.blk HOB.out hob4)
      have HF4 := HF.out.chg ST5.out.2 fun b h => hfar b (.inl h)
      have HT4 := hide (HTT.out.chg ST5.out.2 fun b h => hfar b (.inr h))
      have HE4 := hide (HTE.out.mono fun cs x hx => by
        obtain ⟨A, n, c, e, ho⟩ := hx
        exact ⟨A, n, c, e, ho.chg ST5.out.2 fun b h => hfar b (.inr h)⟩ : Els (fun w cs r => ∃ A n c, cs = [.slice A n c] ∧ OwnH w PT 59 3 n (.slice A n c) (cellsR r)) 1 w4 cT2 (L.take i))
      have HRW4 := hide (HRW.out.chg ST5.out.2 HPG4.out)
      have HOB4 := hide hob4; have HFAR := hide hfar
      have o0 : w4.cell? ⟨ob, 0, none⟩ = some (.slice AF i cF) := OB4.out.cell 0
      have hE5 := Ext.alloc w4 (.cells #[.slice Ai r.length ci] 62)
      have HF5 := hide (HF4.ext hE5)
      have HS5 := hide ((Blk.new w4 62 #[.slice Ai r.length ci]).sl (n := 1) (size := 1) rfl)
      have HONE := hide (show OneCells [Value.slice Ai r.length ci] from fun v hv => by simp at hv; rw [hv]; rfl)
      have OB5 := hide (OB4.out.ext hE5)
      have HE5 := hide hE5
      obtain ⟨i0, hi0, hz0, hz1, hz2⟩ := info_parts infoRw2
      have HI0 := hide (And.intro hi0 (And.intro hz0 (And.intro hz1 hz2)))
      have hcap := HF4.cap
      clear hob4 hfar HF4 hE5 e0 HC
      go_upto_region 8 with (at_builtin; refine wpList_append_b rfl (.tmp 31) (.tmp 33) _ rfl PF 62 i0 _ 1 24 Try.underlying32 HI0.out.1 HI0.out.2.1 HI0.out.2.2.1 HI0.out.2.2.2 rfl (by omega) (.slice AF i cF) i (cells.take i) rfl HF5.out _ 1 1 _ rfl HS5.out HONE.out (by unfold maxLen; omega) (by omega) ?_; intro A8 c8 w8 own8 G8 C8; have OB8 := hide (OB5.out.grown G8.out (own_ne_blk HF5.out.own OB5.out (by decide))); have f8 : w8.frozen? ⟨ob, 0, none⟩ = false := OB8.out.frozen 0; have c8' : w8.cell? ⟨ob, 0, none⟩ = some (.slice AF i cF) := OB8.out.cell 0)
      have HF9 := hide (own8.out.far OB8.out (by decide) 0 (.slice A8 (i + 1) c8))
      have OB9 := hide (OB8.out.set_ 0 (.slice A8 (i + 1) c8))
      have CH9 := hide (((Chg.of HE5.out (B := fun b => PF b ∨ b = ob)).trans (C8.out.mono fun b hb _ => .inl hb : Chg (fun b => PF b ∨ b = ob) _ _) fun _ h _ => h).trans' (Chg.setCell (B := fun b => PF b ∨ b = ob) (Chg.refl _ w8) (p := ⟨ob, 0, none⟩) (.inl (.inr rfl)) (.slice A8 (i + 1) c8)))
      have HPT9 := hide (show ∀ b, PT b → ¬ (PF b ∨ b = ob) from fun b h h2 => h2.elim (fun h3 => HD.out b h3 h) fun h3 => (HB.out b (.inr h)).2.2.2.2.1 h3)
      have HT9 := hide (HT4.out.chg CH9.out HPT9.out)
      have HE9 := hide (HE4.out.mono fun cs x hx => by
        obtain ⟨A, n, c, e, ho⟩ := hx
        exact ⟨A, n, c, e, ho.chg CH9.out HPT9.out⟩ : Els (fun w cs r => ∃ A n c, cs = [.slice A n c] ∧ OwnH w PT 59 3 n (.slice A n c) (cellsR r)) 1 (w8.setCell ⟨ob, 0, none⟩ (.slice A8 (i + 1) c8)) cT2 (L.take i))
      have HRW9 := hide (HRW4.out.chg CH9.out fun b hb hd => hd.elim (fun h => (HB.out b (.inl h)).2.2.2.1 hb) fun h => by have h1 := hb.2; have h2 := HOBE.out; omega)
      have hs5 : (w4.alloc (.cells #[.slice Ai r.length ci] 62)).heap.size = w4.heap.size + 1 := World.size_alloc _ _
      have HS5b := hide hs5
      rw [show ((#[Value.slice AF i cF, Value.slice AT i cT] : Array Value).setIfInBounds 0 (.slice A8 (i + 1) c8)) = #[.slice A8 (i + 1) c8, .slice AT i cT] from rfl] at OB9
      generalize w8.setCell ⟨ob, 0, none⟩ (.slice A8 (i + 1) c8) = w9 at *
      clear o0 f8 c8' own8 G8 C8 OB8 HF5 HS5 OB5 HONE hs5 HE5
      have o1 : w9.cell? ⟨ob, 1, none⟩ = some (.slice AT i cT) := OB9.out.cell 1
      have o1 := cell_ext o1
      have HCPY := hide (fun (w1 : World) (h1 : Ext w9 w1) => cloneV (cellsR r) Ai r.length ci w1 ((RowAt.own HRW9.out.own).2.ext h1) (cellsR_one r) (by have := HLEN.out; omega))
      have hcapT := HT9.out.cap
      refine wp_region_ext 5 (by kernel_rfl) (by kernel_rfl) (by kernel_rfl) ?_
      iterate 3
        refine wpE_k (by kernel_rfl) (by kernel_rfl) ?_
        apply Exists.intro
        refine ⟨fun w1 hw1 => ?_, fun K hK => ?_⟩
        · go_simp; first | done | rfl
        go_simp; refine hK _ _ ?_; clear hK K
      refine wpE_p [] (fun u w1 => ∃ Ac cc, u = .slice Ac r.length cc ∧ w1.ownsRow w9.heap.size 59 3 (.slice Ac r.length cc) r.length (cellsR r)) (fun u w1 w2 _ h2 ⟨Ac, cc, h3, h4⟩ => ⟨Ac, cc, h3, mine_ext h4 h2⟩) rfl (by kernel_rfl) (fun w1 hw1 => ?_) ?_
      · clear o1
        simp only [LookQ]
        go_simp
        refine ⟨Ext.refl _, (HCPY.out w1 hw1).mono fun e w' h => ?_⟩
        obtain ⟨Ac, cc, rfl, h2, h3⟩ := h
        exact ⟨_, rfl, h3, Ac, cc, rfl, mine_base h2 hw1.size⟩
      refine wpE_p [39] (fun u w1 => ∃ gc Ac cc, u = .slice (some ⟨gc, 0, none⟩) 1 1 ∧ Blk w1 gc 62 #[.slice Ac r.length cc] ∧ w1.ownsRow w9.heap.size 59 3 (.slice Ac r.length cc) r.length (cellsR r)) (fun u w1 w2 _ h2 ⟨gc, Ac, cc, h3, h4, h5⟩ => ⟨gc, Ac, cc, h3, h4.ext h2, mine_ext h5 h2⟩) rfl (by kernel_rfl) (fun w1 hw1 => ?_) ?_
      · clear o1
        simp only [LookQ]
        intro u hu
        obtain ⟨Ac, cc, rfl, h2⟩ := hu _ rfl
        clear hu
        go_simp
        exact ⟨Ext.alloc _ _, Ac, cc, Blk.new _ _ _, mine_ext h2 (Ext.alloc _ _)⟩
      refine wpE_nil ⟨rfl, by kernel_rfl, fun wa hwa => ?_⟩
      simp only [EndQ]
      rintro _ ⟨gc, Ac, cc, rfl, hgc, hrow⟩ _ _
      simp only [List.drop]
      clear o1
      have HWA := hide hwa
      have HTa := hide (HT9.out.ext hwa); have OBa := hide (OB9.out.ext hwa); have HFa := hide (HF9.out.ext hwa)
      have HEa := hide (HE9.out.mono fun cs x hx => by
        obtain ⟨A, n, c, e, ho⟩ := hx
        exact ⟨A, n, c, e, ho.ext hwa⟩ : Els (fun w cs r => ∃ A n c, cs = [.slice A n c] ∧ OwnH w PT 59 3 n (.slice A n c) (cellsR r)) 1 wa cT2 (L.take i))
      have HSa := hide (hgc.sl (n := 1) (size := 1) rfl)
      have HONa := hide (show OneCells [Value.slice Ac r.length cc] from fun v hv => by simp at hv; rw [hv]; rfl)
      have HRWa := hide hrow
      clear hwa hgc hrow
      go_wp2_with (at_builtin; refine wpList_append_b rfl (.tmp 37) (.tmp 40) _ rfl PT 62 i0 _ 1 24 Try.underlying32 HI0.out.1 HI0.out.2.1 HI0.out.2.2.1 HI0.out.2.2.2 rfl (by omega) (.slice AT i cT) i cT2 rfl HTa.out _ 1 1 _ rfl HSa.out HONa.out (by unfold maxLen; omega) (by omega) ?_; intro A9 c9 wb own9 G9 C9; have OBb := hide (OBa.out.grown G9.out (own_ne_blk HTa.out.own OBa.out (by decide))); have f8 : wb.frozen? ⟨ob, 1, none⟩ = false := OBb.out.frozen 1; have c8' : wb.cell? ⟨ob, 1, none⟩ = some (.slice AT i cT) := OBb.out.cell 1)
      go_roundw
      case rel =>
        have hsz9 := CH9.out.size
        have hsza := HWA.out.size
        have hszb := C9.out.size
        have hszw : (wb.setCell ⟨ob, 1, none⟩ (.slice A9 (i + 1) c9)).heap.size = wb.heap.size := by simp
        have hsz4 := ST5.out.2.size
        have hszr := hCh.out.size
        have hobs := HSZ.out
        have hlt4 : ∀ b, lab5.dom b → b < w4.heap.size := fun b ⟨j, hj⟩ => R5.out.lt b j hj
        have hB := HB.out
        have hn5 : ∀ b, PF b ∨ PT b ∨ b = ob → ¬ lab5.dom b := fun b hb hd => by
          rcases ST5.out.1 b hd with h | h
          · rcases hb with hb | hb | hb
            · exact HFAR.out b (.inl hb) h
            · exact HFAR.out b (.inr hb) h
            · subst hb; exact HOB4.out h
          · rcases hb with hb | hb | hb
            · have := hB b (.inl hb); omega
            · have := hB b (.inr hb); omega
            · omega
        have CE : Chg (fun b => PF b ∨ PT b ∨ b = ob) w4 (wb.setCell ⟨ob, 1, none⟩ (.slice A9 (i + 1) c9)) :=
          (((CH9.out.mono fun b hb _ => hb.elim .inl fun h => .inr (.inr h) : Chg (fun b => PF b ∨ PT b ∨ b = ob) w4 w9).trans' (Chg.of HWA.out)).trans' (C9.out.mono fun b hb _ => .inr (.inl hb))).trans' (Chg.setCell (B := fun b => PF b ∨ PT b ∨ b = ob) (Chg.refl _ wb) (p := ⟨ob, 1, none⟩) (.inl (.inr (.inr rfl))) (.slice A9 (i + 1) c9))
        have hPTlt : ∀ b, PT b → b < wr.heap.size := fun b hb => (hB b (.inr hb)).2.1
        have hPFlt : ∀ b, PF b → b < wr.heap.size := fun b hb => (hB b (.inl hb)).2.1
        have hs5 := HS5b.out
        have hFE : OwnH (wb.setCell ⟨ob, 1, none⟩ (.slice A9 (i + 1) c9)) (fun b => PF b ∨ (w4.heap.size ≤ b ∧ b < w9.heap.size)) 62 1 (i + 1) (.slice A8 (i + 1) c8) (cells.take (i + 1)) := by
          have h1 : OwnH w9 (fun b => PF b ∨ (w4.heap.size ≤ b ∧ b < w9.heap.size)) 62 1 (i + 1) (.slice A8 (i + 1) c8) (cells.take (i + 1)) := by
            rw [List.take_add_one, HCI.out]
            exact ⟨HF9.out.own, fun g hg => (HF9.out.inB g hg).imp id fun e => ⟨by omega, HF9.out.lt g hg⟩⟩
          have h2 := (h1.ext HWA.out).chg C9.out fun b hb hp => by
            rcases hb with hb | hb
            · exact HD.out b hb hp
            · have := hPTlt b hp; omega
          exact h2.far OBb.out (by decide) 1 _
        have hTE : OwnH (wb.setCell ⟨ob, 1, none⟩ (.slice A9 (i + 1) c9)) (fun b => PT b ∨ (w9.heap.size ≤ b ∧ b < wb.heap.size)) 62 1 (i + 1) (.slice A9 (i + 1) c9) (cT2 ++ [.slice Ac r.length cc]) :=
          (show OwnH wb (fun b => PT b ∨ (w9.heap.size ≤ b ∧ b < wb.heap.size)) 62 1 (i + 1) (.slice A9 (i + 1) c9) (cT2 ++ [.slice Ac r.length cc]) from ⟨own9.out.own, fun g hg => (own9.out.inB g hg).imp id fun e => ⟨by omega, own9.out.lt g hg⟩⟩).far OBb.out (by decide) 1 _
        have hac : OwnH wa (fun b => PT b ∨ (w9.heap.size ≤ b ∧ b < wb.heap.size)) 59 3 r.length (.slice Ac r.length cc) (cellsR r) := ⟨own_base0 HRWa.out (Nat.zero_le _), fun g hg => .inr ⟨(HRWa.out.lt g hg).1, by have := (HRWa.out.lt g hg).2; omega⟩⟩
        have hE2 : Els (fun w cs r => ∃ A n c, cs = [.slice A n c] ∧ OwnH w (fun b => PT b ∨ (w9.heap.size ≤ b ∧ b < wb.heap.size)) 59 3 n (.slice A n c) (cellsR r)) 1 (wb.setCell ⟨ob, 1, none⟩ (.slice A9 (i + 1) c9)) (cT2 ++ [.slice Ac r.length cc]) (L.take (i + 1)) := by
          rw [show L.take (i + 1) = L.take i ++ [r] by rw [List.take_add_one, HRr.out]; rfl]
          refine (HEa.out.mono fun cs x hx => ?_).append (Els.single rfl (fun v hv => by obtain rfl := List.mem_singleton.1 hv; rfl) ⟨Ac, r.length, cc, rfl, (hac.grown HTa.out.own (by decide) G9.out).far OBb.out (by decide) 1 _⟩)
          obtain ⟨A, n, c, e, ho⟩ := hx
          exact ⟨A, n, c, e, ((ho.grown HTa.out.own (by decide) G9.out).far OBb.out (by decide) 1 _).mono fun b h => .inl h⟩
        refine ⟨i + 1, lab5, by omega, by go_num, R5.out.chg CE fun b hb hc => hn5 b hc hb, (HGC.out (i + 1)).chg _ _ _ _ G5.out CE (fun b hb hc => hn5 b hc ⟨1, hb⟩), fun b hd => ?_, ⟨A8, c8, A9, c9, _, _, _, OBb.out.set_ 1 _, hFE, hTE, hE2, HTA.out.push (fun u hu g hg e => ?_), fun b h1 h2 => ?_, fun b hb => ?_⟩, ?_⟩
        · rcases ST5.out.1 b hd with h | h
          · exact hSt.out b h
          · exact .inr (by omega)
        · have h1 := els_in HEa.out u hu g hg
          have h2 := (HRWa.out.lt g e).1
          have := hPTlt g h1; omega
        · rcases h1 with h1 | h1
          · rcases h2 with h2 | h2
            · exact HD.out b h1 h2
            · have := hPFlt b h1; omega
          · rcases h2 with h2 | h2
            · have := hPTlt b h2; omega
            · omega
        · rw [hszw]
          have hd5 := hn5 b
          have hl5 := hlt4 b
          have hPgb : Rg T w2.heap.size b → b < w2.heap.size := fun h => h.2
          have he3 := E3.out.size
          rcases hb with (hb | hb) | (hb | hb)
          · have h := hB b (.inl hb); exact ⟨h.1, by omega, hd5 (.inl hb), h.2.2.2.1, h.2.2.2.2⟩
          · exact ⟨by omega, by omega, fun hd => by have := hl5 hd; omega, fun h => by have := hPgb h; omega, by omega, by omega⟩
          · have h := hB b (.inr hb); exact ⟨h.1, by omega, hd5 (.inr (.inl hb)), h.2.2.2.1, h.2.2.2.2⟩
          · exact ⟨by omega, by omega, fun hd => by have := hl5 hd; omega, fun h => by have := hPgb h; omega, by omega, by omega⟩
        · refine ((hCh.out.trans ST5.out.2 fun g hg hl => (hSt.out g hg).elim .inl fun h => by omega).trans CE fun g hg hl => ?_)
          rcases hg with hg | hg | hg
          · have := (hB g (.inl hg)).1; omega
          · have := (hB g (.inr hg)).1; omega
          · exact .inr hg
      case measure => simp [intOf]; omega
    · obtain rfl : i = L.length := by omega
      obtain ⟨AF, cF, AT, cT, PF, PT, cT2, hob, hF, hT, hTe, hTa, hd, hb⟩ := hM.out.out
      have HOB := hide hob; have HF := hide hF; have HTT := hide hT; have HTE := hide hTe; have HTA := hide hTa; have HD := hide hd; have HB := hide hb
      clear hob hF hT hTe hTa hd hb
      have RBr := hide (hCh.out.blk RB3.out fun h => h.elim HRBD.out fun e => by have := HSZ.out; have := HOBE.out; omega)
      have hPg : ∀ b, Rg T w2.heap.size b → ¬ (lab2.dom b ∨ b = ob) := fun b hb hd => by
        have h1 := hb.1; have h2 := hb.2; have h3 := HOBE.out
        rcases hd with hd | hd
        · have := HT.out.1 b hd; omega
        · omega
      have hPg4 : ∀ b, Rg T w2.heap.size b → ¬ lab4.dom b := fun b hb hd => by
        rcases hSt.out b hd with h | h
        · exact hPg b hb (.inl h)
        · have h2 := hb.2; have h3 := E3.out.size; omega
      have HPG := hide hPg; have HPG4 := hide hPg4
      have o0 : wr.cell? ⟨ob, 0, none⟩ = some (.slice AF L.length cF) := HOB.out.cell 0
      have o1 : wr.cell? ⟨ob, 1, none⟩ = some (.slice AT L.length cT) := HOB.out.cell 1
      have f0 := RBr.out.frozen 0
      have f1 := RBr.out.frozen 1
      have c0 : _ = some (Value.slice none 0 0) := RBr.out.cell 0
      have c1 : _ = some (Value.slice none 0 0) := RBr.out.cell 1
      clear hPg hPg4
      go_wp2_with fail
      have R := (two_cells RBr.out (.slice AF L.length cF) (.slice AT L.length cT))
      have r0 := R.cell 0
      have r1 := R.cell 1
      refine bodyPost_ret (v := .agg #[.slice AF L.length cF, .slice AT L.length cT]) (by simp [results, Try.results76, go_sem, r0, r1]) rfl ?_
      have hB := HB.out
      have hT3 := HT.out
      have hsz := HSZ.out
      have hszE := HE.out.size
      have hsz3 := E3.out.size
      have hszr := hCh.out.size
      have hob := HOBE.out
      have hrbd : ¬ lab4.dom rb := fun hd => (hSt.out rb hd).elim HRBD.out fun h => by omega
      have CE : Chg (fun b => b = rb) wr ((wr.setCell ⟨rb, 0, none⟩ (.slice AF L.length cF)).setCell ⟨rb, 1, none⟩ (.slice AT L.length cT)) := (chg_var wr rb 0 _).trans' (chg_var _ rb 1 _)
      have hPF : ∀ b, PF b ∨ Rg T w2.heap.size b → w.heap.size ≤ b ∧ b < wr.heap.size ∧ ¬ lab4.dom b ∧ b ≠ rb := fun b hb => by
        rcases hb with hb | hb
        · have h := hB b (.inl hb); exact ⟨by omega, h.2.1, h.2.2.1, h.2.2.2.2.2⟩
        · have h1 := hb.1; have h2 := hb.2; exact ⟨by omega, by omega, HPG4.out b hb, by omega⟩
      have hPT : ∀ b, PT b → w.heap.size ≤ b ∧ b < wr.heap.size ∧ ¬ lab4.dom b ∧ b ≠ rb := fun b hb => by
        have h := hB b (.inr hb); exact ⟨by omega, h.2.1, h.2.2.1, h.2.2.2.2.2⟩
      refine ⟨_, lab4, rfl, hR.out.chg CE fun b hb e => hrbd (e ▸ hb), (HGC.out _).chg _ _ _ _ hG.out CE (fun b hb e => hrbd (e ▸ ⟨1, hb⟩)), ⟨fun b hb => ?_, ?_⟩, AF, cF, AT, cT, fun b => PF b ∨ Rg T w2.heap.size b, PT, rfl, ?_, ?_, fun b h1 h2 => ?_, fun b hb => ?_⟩
      · rcases hSt.out b hb with h | h
        · exact (ST2.out.1 b h).imp id fun h => by omega
        · exact .inr (by omega)
      · refine ((((Chg.of HE.out (B := lab.dom)).trans' ST2.out.2).trans' (Chg.of E3.out)).trans hCh.out fun g hg hl => ?_).trans CE fun g hg hl => by have h1 : g = rb := hg; have h2 := HR.out; omega
        rcases hg with hg | hg
        · exact (ST2.out.1 g hg).resolve_right (by omega)
        · omega
      · refine ⟨rfl, cells, ?_, ?_, HAP.out⟩
        · have h := HF.out
          rw [show cells.take L.length = cells by rw [← HCL.out]; exact List.take_length] at h
          exact (h.chg CE fun b hb e => (hPF b (.inl hb)).2.2.2 e).mono fun b h => .inl h
        · exact rows_els HCL.out fun j r hr => by
            obtain ⟨Aj, cj, h1, h2⟩ := HROW.out j r hr
            exact ⟨Aj, cj, h1, ((h2.chg hCh.out HPG.out).chg CE fun b hb e => (hPF b (.inr hb)).2.2.2 e).mono fun b h => .inr h⟩
      · refine ⟨rfl, cT2, HTT.out.chg CE fun b hb e => (hPT b hb).2.2.2 e, ?_, HTA.out⟩
        have h := HTE.out
        rw [List.take_length] at h
        refine h.mono fun cs x hx => ?_
        obtain ⟨A, n, c, e, ho⟩ := hx
        exact ⟨A, n, c, e, ho.chg CE fun b hb e => (hPT b hb).2.2.2 e⟩
      · rcases h1 with h1 | h1
        · exact HD.out b h1 h2
        · exact (hB b (.inr h2)).2.2.2.1 h1
      · have hsz9 := CE.size
        rcases hb with hb | hb
        · have h := hPF b hb; exact ⟨h.1, by omega, h.2.2.1⟩
        · have h := hPT b hb; exact ⟨h.1, by omega, h.2.2.1⟩
end Go.Proofs.Ytahdiiaadjdmcaa

namespace Go.Proofs.Ytahdiiaadjdmcaa
open Go.RowKit Classical

theorem StP.mono {w : World} {B C : Nat → Prop} {x : Nat} {S : SAbs} {N : Nat} (h : StP w B x S N) (hC : ∀ g, B g → C g) : StP w C x S N := by
  obtain ⟨lab, v, D, P0, F0, Y, h1, h2, h3⟩ := h
  exact ⟨lab, v, D, P0, F0, Y, h1, fun b hb => hC b (h2 b hb), h3⟩
theorem StD.mono {w : World} {B C : Nat → Prop} {x : Nat} {S : SAbs} {N : Nat} (h : StD w B x S N) (hC : ∀ g, B g → C g) : StD w C x S N := by
  obtain ⟨lab, v, D, P0, F0, G, h1, h2, h3⟩ := h
  exact ⟨lab, v, D, P0, F0, G, h1, fun b hb => hC b (h2 b hb), h3⟩
theorem nodup_sub {l m : List (List V)} (hl : l.Nodup) (hs : ∀ x ∈ l, x ∈ m) : l.length ≤ m.length := by
  induction l generalizing m with
  | nil => exact Nat.zero_le _
  | cons a l ih =>
    rw [List.nodup_cons] at hl
    have ha : a ∈ m := hs a (List.mem_cons_self ..)
    have h1 := ih hl.2 (m := m.erase a) fun x hx => by
      have hne : x ≠ a := fun e => hl.1 (e ▸ hx)
      exact (List.mem_erase_of_ne hne).2 (hs x (List.mem_cons_of_mem _ hx))
    have h2 := List.length_erase_of_mem ha
    have h3 : 0 < m.length := List.length_pos_of_mem ha
    simp only [List.length_cons]; omega
theorem grp_side {K : NK} {a : NAbs} {r : List V} : grpS (S2 K a) 0 r = ofSide K a.now r := rfl
theorem ofSide_nodup {K : NK} {s : NSt} (h : NOk K s) (r : List V) : (ofSide K s r).Nodup := h.nd.filter _
theorem ofSide_len {K : NK} (hK : NKOk K) {s : NSt} (h : NOk K s) (r : List V) : (ofSide K s r).length ≤ 65536 := by
  have h1 : (ofSide K s r).length ≤ s.ons.length := List.length_filter_le _ _
  have := h.most; have := hK.most; omega
theorem ofSide_fit {K : NK} {s : NSt} (h : NOk K s) (h3 : K.kind = 3) (r : List V) : ∀ x ∈ ofSide K s r, Fit K.inn x := fun x hx => by
  have h1 := h.ons x (mem_ofSide.1 hx).1
  rw [show K.width = K.inn by unfold NK.width; rw [if_neg (by omega)]] at h1
  exact h1
/-- the rows that have come alive, one after the other -/
def SPi (K : NK) (a : NAbs) (L : List (List V)) (i : Nat) : SAbs := { S1 K a with rows := a.now.live ++ L.take i }
theorem spi_step {K : NK} {a : NAbs} (h : NOk K a.now) (h3 : K.kind = 3) {r : List V} (hr : r ∉ a.now.sides) {i : Nat} {x : List V} (hx : (ofSide K a.now r)[i]? = some x) : (putS (SPi K a (ofSide K a.now r) i) x).1 = SPi K a (ofSide K a.now r) (i + 1) := by
  have hm := mem_ofSide.1 (List.mem_of_getElem? hx)
  have hf := ofSide_fit h h3 r x (List.mem_of_getElem? hx)
  have hwd : (SPi K a (ofSide K a.now r) i).width = K.inn := by show K.width = _; unfold NK.width; rw [if_neg (by omega)]
  have hnd := ofSide_nodup h r
  have htk : (ofSide K a.now r).take (i + 1) = (ofSide K a.now r).take i ++ [x] := by rw [List.take_add_one, hx]; rfl
  have hall : (a.now.live ++ (ofSide K a.now r).take (i + 1)).Nodup := by
    rw [List.nodup_append]
    refine ⟨h.lnd, (List.take_sublist _ _).nodup hnd, fun y hy z hz e => ?_⟩
    subst e
    have h1 := ((h.meet h3 y).1 hy).2
    rw [(mem_ofSide.1 (List.mem_of_mem_take hz)).2] at h1
    exact hr h1
  have hno : x ∉ a.now.live ++ (ofSide K a.now r).take i := fun hmm => by
    rw [htk, ← List.append_assoc, List.nodup_append] at hall
    exact hall.2.2 x hmm x (by simp) rfl
  have hlen : (a.now.live ++ (ofSide K a.now r).take (i + 1)).length ≤ a.now.ons.length := nodup_sub hall fun y hy => by
    rcases List.mem_append.1 hy with hy | hy
    · exact ((h.meet h3 y).1 hy).1
    · exact (mem_ofSide.1 (List.mem_of_mem_take hy)).1
  have hmost := h.most
  have hl2 : (a.now.live ++ (ofSide K a.now r).take i).length < K.most := by
    rw [htk] at hlen
    simp only [List.length_append, List.length_singleton] at hlen ⊢
    omega
  unfold putS
  rw [show fitsR (SPi K a (ofSide K a.now r) i).width x = true by rw [hwd]; exact hf.1, show (SPi K a (ofSide K a.now r) i).rows = a.now.live ++ (ofSide K a.now r).take i from rfl, inB_false.2 hno, show (SPi K a (ofSide K a.now r) i).most = K.most from rfl, if_pos hl2]
  unfold SPi
  simp only [if_true, Bool.false_eq_true, if_false]
  rw [htk, List.append_assoc]
  rfl
/-- the rows that go, one after the other -/
noncomputable def SDi (K : NK) (a : NAbs) (L : List (List V)) (i : Nat) : SAbs := { S1 K a with rows := a.now.live.filter fun x => decide (x ∉ L.take i) }
theorem sdi_start (K : NK) (a : NAbs) (L : List (List V)) : SDi K a L 0 = S1 K a := by
  unfold SDi
  rw [show (a.now.live.filter fun x => decide (x ∉ L.take 0)) = a.now.live from List.filter_eq_self.2 fun x _ => by simp]
  rfl
theorem sdi_step {K : NK} {a : NAbs} (h : NOk K a.now) (h3 : K.kind = 3) {r : List V} (hr : r ∈ a.now.sides) {i : Nat} {x : List V} (hx : (ofSide K a.now r)[i]? = some x) : (dropS (SDi K a (ofSide K a.now r) i) x).1 = SDi K a (ofSide K a.now r) (i + 1) := by
  have hm := mem_ofSide.1 (List.mem_of_getElem? hx)
  have hf := ofSide_fit h h3 r x (List.mem_of_getElem? hx)
  have hwd : (SDi K a (ofSide K a.now r) i).width = K.inn := by show K.width = _; unfold NK.width; rw [if_neg (by omega)]
  have hnd := ofSide_nodup h r
  have htk : (ofSide K a.now r).take (i + 1) = (ofSide K a.now r).take i ++ [x] := by rw [List.take_add_one, hx]; rfl
  have hxt : x ∉ (ofSide K a.now r).take i := fun hmm => by
    have h1 : ((ofSide K a.now r).take (i + 1)).Nodup := (List.take_sublist _ _).nodup hnd
    rw [htk, List.nodup_append] at h1
    exact h1.2.2 x hmm x (by simp) rfl
  have hlive : x ∈ a.now.live := (h.meet h3 x).2 ⟨hm.1, by rw [hm.2]; exact hr⟩
  have hin : x ∈ a.now.live.filter fun y => decide (y ∉ (ofSide K a.now r).take i) := List.mem_filter.2 ⟨hlive, decide_eq_true hxt⟩
  unfold dropS
  rw [show fitsR (SDi K a (ofSide K a.now r) i).width x = true by rw [hwd]; exact hf.1, show (SDi K a (ofSide K a.now r) i).rows = a.now.live.filter fun y => decide (y ∉ (ofSide K a.now r).take i) from rfl, inB_iff.2 hin]
  unfold SDi
  simp only [if_true]
  rw [delR_filter (h.lnd.filter _), List.filter_filter]
  congr 1
  apply List.filter_congr
  intro y hy
  rw [htk]
  by_cases e : y = x
  · subst e; rw [sameR_self]; simp
  · rw [sameR_ne e]; simp [e]
theorem sdi_end {K : NK} {a : NAbs} (h : NOk K a.now) (h3 : K.kind = 3) (r : List V) : SDi K a (ofSide K a.now r) (ofSide K a.now r).length = { S1 K a with rows := a.now.live.filter fun x => !sameR (keyR K.side x) r } := by
  have key : (a.now.live.filter fun x => decide (x ∉ (ofSide K a.now r).take (ofSide K a.now r).length)) = a.now.live.filter fun x => !sameR (keyR K.side x) r := by
    rw [List.take_length]
    apply List.filter_congr
    intro y hy
    have hy2 := (h.meet h3 y).1 hy
    by_cases e : keyR K.side y = r
    · rw [e, sameR_self]
      simp [mem_ofSide, hy2.1, e]
    · rw [sameR_ne e]
      simp [mem_ofSide, e]
  unfold SDi
  rw [key]
theorem MovedAt.weak {T T' rb : Nat} {D : Nat → Prop} {w : World} {F U : List (List V)} {y : Value} (h : MovedAt T D w F U y) (hT : T' ≤ T) (hrb : rb < T) : MovedAt T' (fun b => D b ∨ b = rb) w F U y := by
  obtain ⟨A, c, A2, c2, P, Q, e, h1, h2, h3, h4⟩ := h
  exact ⟨A, c, A2, c2, P, Q, e, h1, h2, h3, fun b hb => by have := h4 b hb; exact ⟨by omega, this.2.1, fun hd => hd.elim this.2.2 fun e => by omega⟩⟩
section
variable {w : World} {lab : Lab} {K : NK} {v : NdV} {a : NAbs} {N : Nat}
set_option maxRecDepth 100000 in
theorem meet_key (h : NdR w lab K v a N) (hK : NKOk K) (hk : K.kind = 3) {r : List V} {A : Option Addr} {n : Nat} (c : Nat) (ha : ArgR w A n r) (hf : fitsR K.inn r = true) :
    Calls Try.prog 74 #[.pointer (some ⟨v.k, 0, none⟩), .slice A n c] w fun e w' => ∃ A' c', e = .returned (.slice A' (keyR K.side r).length c') ∧ ArgR w' A' (keyR K.side r).length (keyR K.side r) ∧ Ext w w' := by
  have HP := hide (proj_any r (K.side.map Int.ofNat) A v.sA n K.side.length c v.sC w ha.at_ h.sideN ha.len (by have := hK.side.1; omega))
  have hkg := keyR_good hf ha.small ha.wf hK.side.1 hK.side.2
  have k0 := (h.meet hk).1
  have l3 := h.kind.2.2.2.2.2.1
  have HK := hide hkg
  have hlen := hide (show (keyR K.side r).length ≤ 1048576 from by rw [hkg.len]; have := hK.side.1; omega)
  clear h ha hf hkg
  rw [show (keyR K.side r) = (projR r (K.side.map Int.ofNat)).1 from rfl] at *
  generalize projR r (K.side.map Int.ofNat) = res at *
  obtain ⟨own, z⟩ := res
  go_enter Try.func74, Try.ntmps74
  go_wp2_with ((with_reducible refine HP.out.mono ?_); rintro e w2 ⟨A2, c2, rfl, h2, x2⟩; have O2 := hide h2; have X2 := hide x2; clear h2 x2)
  go_ret
  exact ⟨A2, c2, rfl, ⟨RowAt.own O2.out, hlen.out, HK.out.small, HK.out.wf⟩, X2.out⟩
end
end Go.Proofs.Ytahdiiaadjdmcaa
