/-
  node: a trim's turns, off; what leans on a row.
  node: a meet's turn of all rows of a side's row.
-/
import Derived.Test.YtahdiiaadjdmcaaGreatNgC
namespace Go.Proofs.YtahdiiaadjdmcaaGreat
open Go.RowKit Classical
section
variable {w : World} {lab : Lab} {K : NK} {v : NdV} {a : NAbs} {N : Nat}
set_option maxRecDepth 100000 in
set_option maxHeartbeats 2000000 in
theorem trim_off (h : NdQ w lab K v a (S1 K a) N) (hK : NKOk K) (hO : NOk K a.now) (hk : K.kind = 2) (hN : N + 262146 ≤ 8796093022208) (from_ : Int) {r : List V} {A : Option Addr} {n : Nat} (c : Nat) (ha : ArgR w A n r) (hf : fitsR K.inn r = true) :
    Calls Tryz.prog 160 #[.pointer (some ⟨v.k, 0, none⟩), .int .i64 from_, .slice A n c] w (TurnAt w lab K v a (N + 262146) (trimN K a.now false (keyR K.keep r))) := by
  have hE1 := Ext.alloc w (.cells #[.slice none 0 0, .slice none 0 0] 38)
  have hq := h.ext hE1
  have HOwn := hide (trim_own hq.r hK hk c (ha.ext hE1) hf)
  have RB := hide (Blk.new w 38 #[.slice none 0 0, .slice none 0 0])
  have hkg := keyR_good hf ha.small ha.wf hK.keep.1 hK.keep.2
  have hwd : K.width = K.keep.length := by unfold NK.width; rw [if_pos hk]
  have hfk := hide (show Fit K.width (keyR K.keep r) from ⟨by rw [hwd]; unfold fitsR; rw [Bool.and_eq_true]; exact ⟨decide_eq_true hkg.len, hkg.ok⟩, hkg.small, hkg.wf⟩)
  have HQ := hide hq; have HE := hide hE1; have HRB := hide (show ¬ lab.dom w.heap.size from fun ⟨i, hi⟩ => by have := h.r.lt _ _ hi; omega)
  have HDM := hide h.dom; have HO := hide hO
  clear h ha hq hE1 hkg hwd hf hK hO
  generalize keyR K.keep r = own at *
  obtain ⟨t, ht⟩ : ∃ t, trimN K a.now false own = t := ⟨_, rfl⟩
  rw [ht]
  have HT := hide ht
  obtain ⟨rb, hrb⟩ : ∃ rb, w.heap.size = rb := ⟨_, rfl⟩
  have HR := hide (Nat.le_of_eq hrb)
  rw [hrb] at RB HRB HDM
  clear ht
  go_enter Tryz.func160, Tryz.ntmps160
  go_upto_region 1 with fail
  generalize hw1 : w.alloc (.cells #[.slice none 0 0, .slice none 0 0] 38) = w1 at *
  clear hrb hw1
  go_upto_region 2 with ((with_reducible refine HOwn.out.mono ?_); rintro e w2 ⟨A2, c2, rfl, h2, g2, x2⟩; have HA2 := hide h2; have G2 := hide g2; have X2 := hide x2; clear h2 g2 x2)
  have Q2 := hide (HQ.out.ext X2.out)
  obtain ⟨k0, k1, hlk⟩ := NdR.counts Q2.out hk hfk.out
  have HLK := hide hlk
  have hl2 := hlk w2 (Ext.refl _)
  have hcl := cnt_le HO.out hk own
  have HC := hide (cntL_pos ((HO.out.cnt hk).1) (fun c hc => ((HO.out.cnt hk).2 c hc).1) own)
  clear hlk
  generalize hcc : cntL a.now.ons a.now.cnt own = cc at *
  have HCC := hide hcc
  clear hcc
  have HO1 := hide (one_any c2 HA2.out)
  go_upto_region 3 with ((with_reducible refine HO1.out.mono ?_); rintro e w3 ⟨A3, rfl, h3, x3⟩; have O3 := hide h3; have X3 := hide x3; clear h3 x3)
  have MB := hide (Blk.new w3 38 #[.slice none 0 0, .slice A3 1 1])
  have X4 := hide (Ext.alloc w3 (.cells #[.slice none 0 0, .slice A3 1 1] 38))
  obtain ⟨mb, hmb⟩ : ∃ mb, w3.heap.size = mb := ⟨_, rfl⟩
  have HMB := hide (Nat.le_of_eq hmb)
  rw [hmb] at MB ⊢
  generalize w3.alloc (.cells #[.slice none 0 0, .slice A3 1 1] 38) = w4 at *
  clear hmb hl2 k0 k1
  have XA := hide ((X2.out.trans X3.out).trans X4.out)
  have Q4 := hide (HQ.out.ext XA.out)
  obtain ⟨k0, k1, hlk⟩ := NdR.counts Q4.out hk hfk.out
  have hl4 := HLK.out w4 (X3.out.trans X4.out)
  clear hlk
  have B4 := hide (RB.out.ext XA.out)
  have HSZ := hide (show rb < w1.heap.size ∧ w1.heap.size ≤ w2.heap.size ∧ w2.heap.size ≤ w3.heap.size ∧ mb < w4.heap.size from ⟨RB.out.lt, X2.out.size, X3.out.size, MB.out.lt⟩)
  have HMD := hide (show ¬ lab.dom mb from fun hd => by have := HQ.out.dom _ hd; have := HSZ.out; have := HMB.out; omega)
  have hTU := hide (show MovedAt w.heap.size (fun b => lab.dom b ∨ b = rb ∨ b = mb) w4 [] [own] (.agg #[.slice none 0 0, .slice A3 1 1]) from
    ⟨none, 0, A3, 1, fun _ => False, Rg w2.heap.size w3.heap.size, rfl, ToldA.nil _ _, O3.out.rg X4.out, fun _ h => h.elim, fun b hb => by
      have h1 := HSZ.out; have h2 := HMB.out; have h3 := HE.out.size; have h4 := X4.out.size
      rcases hb with hb | ⟨hb, hb2⟩
      · exact hb.elim
      · refine ⟨by omega, by omega, ?_⟩
        rintro (hd | hd | hd)
        · have := HQ.out.dom _ hd; omega
        · omega
        · omega⟩)
  by_cases h0 : cc = 0
  · subst h0
    have ht : t = (a.now, [], [], 192) := by rw [← HT.out]; unfold trimN; rw [HCC.out]; rfl
    have HT := hide ht
    have ST2 := hide (step_ext (lab := lab) XA.out)
    have Q2 := hide (Q4.out.more (Nat.le_add_right N 262146))
    have B2 := B4
    rw [show ((0 : Nat) : Int) = 0 from rfl] at hl4
    clear ht
    have f0 := B2.out.frozen 0
    have f1 := B2.out.frozen 1
    have c0 : _ = some (Value.slice none 0 0) := B2.out.cell 0
    have c1 : _ = some (Value.slice none 0 0) := B2.out.cell 1
    go_wp2_with fail
    have R := (two_cells B2.out (.slice none 0 0) (.slice none 0 0))
    have r0 := R.cell 0
    have r1 := R.cell 1
    refine bodyPost_ret (v := .tuple #[.agg #[.slice none 0 0, .slice none 0 0], .int .i64 192]) (by simp [results, Tryz.results160, go_sem, r0, r1]) rfl ?_
    exact turn_nil HT.out HE.out ST2.out Q2.out HR.out HRB.out RB.out.lt
  · have h0b : ((cc : Int) == 0) = false := by simp; omega
    have hin := hide (show own ∈ a.now.ons from Classical.byContradiction fun hm => h0 (HC.out.2 hm))
    obtain ⟨ix, hix⟩ := ixR_some hin.out
    have HIX := hide hix
    clear hix
    by_cases h1 : cc = 1
    · subst h1
      have ht : t = ({ a.now with ons := delR own a.now.ons, cnt := a.now.cnt.eraseIdx ix, live := delR own a.now.live }, [own], [own], 0) := by rw [← HT.out]; unfold trimN; rw [HCC.out, HIX.out]; rfl
      have HT := hide ht
      rw [show ((1 : Nat) : Int) = 1 from rfl] at hl4
      clear ht h0b
      obtain ⟨hb4, nn, σ, hn, hm, hs⟩ := Q4.out.r.part 4 hk
      have HB4 := hide hb4; have HN4 := hide hn; have HM4 := hide hm; have HS4 := hide hs
      clear hb4 hn hm hs
      go_upto_region 9 with (at_delete; refine wpList_smap_del rfl (.tmp 41) (.tmp 42) 107 3 rfl Tryz.underlying107 v.m1 nn σ rfl HM4.out (strB (pk own)) rfl (strB_size own) ?_; intro w5 M5 T5)
      have hct : CntAt w5 (lab.own 4) K v.m1 N { a.now with ons := delR own a.now.ons, cnt := a.now.cnt.eraseIdx ix, live := delR own a.now.live } :=
        CntAt.del HB4.out HN4.out M5.out HS4.out hfk.out (fun x => by
          show cntL (delR own a.now.ons) (a.now.cnt.eraseIdx ix) x = _
          rw [ixR_del HIX.out]
          exact cntL_erase x HO.out.nd (HO.out.cnt hk).1 HIX.out)
      obtain ⟨lab5, q5, st5, dm5⟩ := Q4.out.count (a' := { a with now := { a.now with ons := delR own a.now.ons, cnt := a.now.cnt.eraseIdx ix, live := delR own a.now.live } }) hk (Nat.le_refl N) rfl (turned_chg T5.out HB4.out) hct
      have Q5 := hide q5; have ST5 := hide st5
      have hne : ∀ g, ¬ lab.dom g → g ≠ v.m1 := fun g hg e => hg (e ▸ ⟨4, HB4.out⟩)
      have M5b := hide (turned_blk T5.out MB.out (hne mb HMD.out))
      have B5 := hide (turned_blk T5.out B4.out (hne rb HRB.out))
      have HA5 := hide ((HA2.out.ext (X3.out.trans X4.out)).stays (B := lab.own 4) (fun x hx hb => by have h1 := G2.out x hx; have h2 := HQ.out.dom _ ⟨4, hb⟩; omega) (turned_chg T5.out HB4.out))
      have HAS := hide (show Aside (lab5.own 1) A2 from fun x hx hb => by have h1 := G2.out x hx; have h2 := HQ.out.dom _ (dm5 _ ⟨1, hb⟩); omega)
      have HS := hide (drop_st Q5.out.s (by omega) c2 HA5.out HAS.out)
      have hput : dropS (S1 K a) own = ({ S1 K a with rows := delR own a.now.live }, true, 0) := by unfold dropS; rw [show fitsR (S1 K a).width own = true from hfk.out.1, show (S1 K a).rows = a.now.live from rfl, inB_iff.2 (show own ∈ a.now.live by rw [HO.out.plain (by omega)]; exact hin.out)]; rfl
      rw [hput] at HS
      have a6 := Q5.out.r.rows6
      obtain ⟨k0, k1, -⟩ := NdR.counts Q5.out hk hfk.out
      have DM5 := hide dm5
      clear hput q5 st5 hct hl4 hne dm5
      go_upto_region 10 with ((with_reducible refine HS.out.mono ?_); rintro e w6 ⟨rfl, h2⟩; have T2 := hide (Q5.out.live (Nat.le_add_right N 262145) h2); clear h2)
      obtain ⟨lab6, q6, st6⟩ := T2.out
      have Q6 := hide (show NdQ w6 lab6 K v { a with now := { a.now with ons := delR own a.now.ons, cnt := a.now.cnt.eraseIdx ix, live := delR own a.now.live } } (S1 K { a with now := { a.now with ons := delR own a.now.ons, cnt := a.now.cnt.eraseIdx ix, live := delR own a.now.live } }) (N + 262145) from q6); have ST6 := hide st6
      have HMD5 := hide (show ¬ lab5.dom mb from fun h => HMD.out (DM5.out _ h))
      have HRB5 := hide (show ¬ lab5.dom rb from fun h => HRB.out (DM5.out _ h))
      have B6 := hide (st6.2.blk B5.out HRB5.out)
      have M6 := hide (st6.2.blk M5b.out HMD5.out)
      have HA6 := hide (HA5.out.stays (B := lab5.dom) (fun x hx hb => by have h1 := G2.out x hx; have h2 := HQ.out.dom _ (DM5.out _ hb); omega) st6.2)
      have HO6 := hide (one_any c2 HA6.out)
      have HS6 := hide (show w4.heap.size ≤ w5.heap.size ∧ w5.heap.size ≤ w6.heap.size from ⟨ST5.out.2.size, st6.2.size⟩)
      clear q6 st6 T2 k0 k1 a6
      go_upto_region 11 with ((with_reducible refine HO6.out.mono ?_); rintro e w7 ⟨A6, rfl, h3, x3⟩; have O7 := hide h3; have X7 := hide x3; have f0 := (M6.out.ext x3).frozen 0; have c0 : _ = some (Value.slice none 0 0) := (M6.out.ext x3).cell 0; clear h3 x3)
      have M8 := hide ((M6.out.ext X7.out).set_ 0 (.slice A6 1 1))
      have HMD6 := hide (nd_far ST6.out HMD5.out M5b.out.lt)
      have Q8 := hide (((Q6.out.ext X7.out).var HMD6.out 0 (.slice A6 1 1)).more (Nat.le_succ (N + 262145)))
      have B8 := hide ((B6.out.ext X7.out).far (p := ⟨mb, 0, none⟩) (show rb ≠ mb by have := HSZ.out; have := HMB.out; omega) (.slice A6 1 1))
      have HS7 := hide (show w6.heap.size ≤ w7.heap.size ∧ w7.heap.size = (w7.setCell ⟨mb, 0, none⟩ (.slice A6 1 1)).heap.size from ⟨X7.out.size, by simp⟩)
      have HMV := hide (show MovedAt w.heap.size (fun b => lab6.dom b ∨ b = rb) (w7.setCell ⟨mb, 0, none⟩ (.slice A6 1 1)) [own] [own] (.agg #[.slice A6 1 1, .slice A3 1 1]) from
        ⟨A6, 1, A3, 1, Rg w6.heap.size w7.heap.size, Rg w2.heap.size w3.heap.size, rfl, (O7.out.rg (Ext.refl _)).chg (chg_var w7 mb 0 _) (fun b hb e => by have := hb.1; have h1 := MB.out.lt; have h2 := HS7.out; have h3 := HS6.out; omega) (fun _ h => h),
          ((((O3.out.rg X4.out).chg ST5.out.2 (fun b hb hd => by have h1 := hb.1; have h2 := HQ.out.dom _ hd; have h3 := HSZ.out; omega) (fun _ h => h)).chg ST6.out.2 (fun b hb hd => by have h1 := hb.1; have h2 := HQ.out.dom _ (DM5.out _ hd); have h3 := HSZ.out; omega) (fun _ h => h)).ext X7.out).chg (chg_var w7 mb 0 _) (fun b hb e => by have := hb.2; have h2 := HMB.out; omega) (fun _ h => h),
          fun b h1 h2 => by have h3 := h1.1; have h4 := h2.2; have h5 := HS7.out; have h6 := X4.out.size; have h7 := HS6.out; omega,
          fun b hb => by
            have h1 := HSZ.out; have h2 := HMB.out; have h3 := HE.out.size; have h4 := X4.out.size; have h5 := HS7.out; have h8 := HS6.out
            have hq := Q6.out.dom b
            have hq2 : lab6.dom b → lab5.dom b ∨ w5.heap.size ≤ b := ST6.out.1 b
            have hq3 : lab5.dom b → b < w1.heap.size := fun h => HQ.out.dom b (DM5.out b h)
            rcases hb with hb | hb
            · have h6 := hb.1; have h7 := hb.2
              refine ⟨by omega, by omega, ?_⟩
              rintro (hd | hd)
              · have := hq hd; omega
              · omega
            · have h6 := hb.1; have h7 := hb.2
              refine ⟨by omega, by omega, ?_⟩
              rintro (hd | hd)
              · rcases hq2 hd with h | h
                · have := hq3 h; omega
                · omega
              · omega⟩)
      have HST8 := hide (step_var (step_pre (step_on (step_on (step_ext (lab := lab) XA.out) ST5.out) ST6.out) X7.out) (show w1.heap.size ≤ mb by have := HSZ.out; have := HMB.out; omega) 0 (.slice A6 1 1))
      generalize w7.setCell ⟨mb, 0, none⟩ (.slice A6 1 1) = w8 at *
      clear f0 c0
      have m0 : w8.cell? ⟨mb, 0, none⟩ = some (.slice A6 1 1) := M8.out.cell 0
      have m1 : w8.cell? ⟨mb, 1, none⟩ = some (.slice A3 1 1) := M8.out.cell 1
      have f0 := B8.out.frozen 0
      have f1 := B8.out.frozen 1
      have c0 : _ = some (Value.slice none 0 0) := B8.out.cell 0
      have c1 : _ = some (Value.slice none 0 0) := B8.out.cell 1
      go_wp2_with fail
      have R := (two_cells B8.out (.slice A6 1 1) (.slice A3 1 1))
      have r0 := R.cell 0
      have r1 := R.cell 1
      refine bodyPost_ret (v := .tuple #[.agg #[.slice A6 1 1, .slice A3 1 1], .int .i64 0]) (by simp [results, Tryz.results160, go_sem, r0, r1]) rfl ?_
      exact turn_gen HT.out HE.out HST8.out Q8.out HR.out HRB.out RB.out.lt HMV.out
    · have h1b : ((cc : Int) == 1) = false := by simp; omega
      have ht : t = ({ a.now with cnt := a.now.cnt.set ix (cc - 1) }, [], [own], 0) := by rw [← HT.out]; unfold trimN; rw [HCC.out, if_neg (by simp), if_neg h0, if_neg h1, HIX.out]; rfl
      have HT := hide ht
      have hcw : IntKind.i64.wrap ((cc : Int) - 1) = ((cc - 1 : Nat) : Int) := by
        rw [show ((cc : Int) - 1) = ((cc - 1 : Nat) : Int) by omega]
        exact IntWalk.i64_in _ (by omega)
      have hcb : (cc : Int) - 1 = ((cc - 1 : Nat) : Int) := by omega
      clear ht
      obtain ⟨hb4, nn, σ, hn, hm, hs⟩ := Q4.out.r.part 4 hk
      have HB4 := hide hb4; have HN4 := hide hn; have HM4 := hide hm; have HS4 := hide hs
      clear hb4 hn hm hs
      go_upto_region 11 with (at_mapUpdate; refine wpList_smap_put rfl (.tmp 29) (.tmp 30) (.tmp 32) 107 3 rfl Tryz.underlying107 v.m1 nn σ rfl HM4.out (by have := HN4.out; unfold maxLen; omega) (strB (pk own)) (.int .i64 ((cc - 1 : Nat) : Int)) rfl (by first | rfl | (simp [Act.eval, hcb])) (strB_size own) ?_; intro w8 M8 T8)
      have hct : CntAt w8 (lab.own 4) K v.m1 (N + 262146) { a.now with cnt := a.now.cnt.set ix (cc - 1) } :=
        CntAt.put HB4.out (by have := HN4.out; omega) M8.out HS4.out hfk.out (c := cc - 1) (by omega) (fun x => cntL_set x (HO.out.cnt hk).1 HIX.out)
      obtain ⟨lab8, q8, st8, -⟩ := Q4.out.count (a' := { a with now := { a.now with cnt := a.now.cnt.set ix (cc - 1) } }) hk (Nat.le_add_right N 262146) rfl (turned_chg T8.out HB4.out) hct
      have HQ8 := hide q8; have HST8 := hide st8
      have hne : ∀ g, ¬ lab.dom g → g ≠ v.m1 := fun g hg e => hg (e ▸ ⟨4, HB4.out⟩)
      have M8b := hide (turned_blk T8.out MB.out (hne mb HMD.out))
      have B8 := hide (turned_blk T8.out B4.out (hne rb HRB.out))
      have m0 : w8.cell? ⟨mb, 0, none⟩ = some (.slice none 0 0) := M8b.out.cell 0
      have m1 : w8.cell? ⟨mb, 1, none⟩ = some (.slice A3 1 1) := M8b.out.cell 1
      have f0 := B8.out.frozen 0
      have f1 := B8.out.frozen 1
      have c0 : _ = some (Value.slice none 0 0) := B8.out.cell 0
      have c1 : _ = some (Value.slice none 0 0) := B8.out.cell 1
      have HMV := hide (hTU.out.chg (D' := fun b => lab8.dom b ∨ b = rb) (turned_chg (B := lab.own 4) T8.out HB4.out) (fun b _ h => .inl ⟨4, h⟩) (fun b hb h => h.imp (fun h => (st8.1 b h).resolve_right (by omega)) .inl))
      clear q8 st8 hne hct k0 k1 hl4
      go_wp2_with fail
      have R := (two_cells B8.out (.slice none 0 0) (.slice A3 1 1))
      have r0 := R.cell 0
      have r1 := R.cell 1
      refine bodyPost_ret (v := .tuple #[.agg #[.slice none 0 0, .slice A3 1 1], .int .i64 0]) (by simp [results, Tryz.results160, go_sem, r0, r1]) rfl ?_
      exact turn_gen HT.out HE.out (step_on (step_ext XA.out) HST8.out) HQ8.out HR.out HRB.out RB.out.lt HMV.out
set_option maxRecDepth 100000 in
theorem trim_sup (h : NdQ w lab K v a (S1 K a) N) (hO : NOk K a.now) (hk : K.kind = 2) (hN : N + 1 ≤ 8796093022208) {r : List V} {A : Option Addr} {n : Nat} (c : Nat) (ha : ArgR w A n r) (hA : Aside lab.dom A) :
    Calls Tryz.prog 163 #[.pointer (some ⟨v.k, 0, none⟩), .slice A n c] w fun e w' => e = .returned (.int .i64 (supN K a.now r)) ∧ NdT w lab K v a (S1 K a) (N + 1) w' := by
  have HS := hide (live_has h (by omega) c ha)
  have k0 : w.cell? ⟨v.k, 0, none⟩ = some (.pointer (some ⟨v.l, 0, none⟩)) := by
    have hb := h.r.wk
    rw [(workC_trim hk v).2] at hb
    exact hb.cell 0
  have hs : supN K a.now r = if inB a.now.live r then cntL a.now.ons a.now.cnt r else 0 := by unfold supN; rw [if_neg (show ¬ K.kind = 3 by omega), if_pos hk]
  rw [hs]
  have e1 : inB (S1 K a).rows r = inB a.now.live r := rfl
  rw [e1] at HS
  have HA := hide ha; have HAS := hide hA; have HO := hide hO; have HD := hide h.dom
  clear h ha hs e1 hA hO
  cases hb : inB a.now.live r with
  | false =>
    rw [hb] at HS
    rw [if_neg (by simp)]
    clear hb
    go_enter Tryz.func163, Tryz.ntmps163
    go_wp2_with ((with_reducible refine HS.out.mono ?_); rintro e w2 ⟨rfl, h2⟩; have S2 := hide h2; clear h2)
    go_ret
    exact ⟨rfl, S2.out⟩
  | true =>
    rw [hb] at HS
    rw [if_pos rfl]
    have hfit := hide (show Fit K.width r from HO.out.ons r (by rw [← HO.out.plain (by omega)]; exact inB_iff.1 hb))
    clear hb
    go_enter Tryz.func163, Tryz.ntmps163
    go_upto_region 3 with ((with_reducible refine HS.out.mono ?_); rintro e w2 ⟨rfl, h2⟩; have S2 := hide h2; clear h2)
    obtain ⟨lab2, q2, st2⟩ := S2.out
    have Q2 := hide q2; have ST2 := hide st2
    have HA2 := hide (HA.out.stays (B := lab.dom) HAS.out st2.2)
    have HP := hide (row_pack r A n c w2 HA2.out.at_ HA2.out.len HA2.out.small HA2.out.wf)
    clear q2 st2 S2 k0
    go_upto_region 4 with ((with_reducible refine HP.out.mono ?_); rintro e w3 ⟨A3, c3, rfl, h3, x3⟩; have O3 := hide h3; have X3 := hide x3; clear h3 x3)
    have hcv : ∀ w9, Ext w3 w9 → (convert 155 9 (.slice A3 (packRes r).1.length c3)).run Tryz.prog w9 = .ok (.string (strB (pk r))) w9 := fun w9 h9 => key_conv (k := pk r) ((Sl.own O3.out).ext h9) c3
    obtain ⟨-, k1, hlk⟩ := NdR.counts (Q2.out.ext X3.out) hk hfit.out
    have k1 := cell_ext k1
    refine wp_region_ext 8 (by kernel_rfl) (by kernel_rfl) (by kernel_rfl) ?_
    iterate 8
      refine wpE_k (by kernel_rfl) (by kernel_rfl) ?_
      apply Exists.intro
      refine ⟨fun w1 hw1 => ?_, fun K hK => ?_⟩
      · go_simp; first | done | rfl
      go_simp; refine hK _ _ ?_; clear hK K
    refine wpE_nil ⟨rfl, by kernel_rfl, fun w4 hw4 => ?_⟩
    simp only [EndQ]
    refine wpList_nil ?_
    have X4 := hide hw4
    clear hw4 hcv hlk k1
    go_wp2_with fail
    go_ret
    exact ⟨rfl, lab2, Q2.out.ext (X3.out.trans X4.out), step_pre ST2.out (X3.out.trans X4.out)⟩
end
end Go.Proofs.YtahdiiaadjdmcaaGreat

namespace Go.Proofs.YtahdiiaadjdmcaaGreat
open Go.RowKit

theorem workC_meet {K : NK} (hk : K.kind = 3) (v : NdV) : workS K = 93 ∧ workC K v = #[ptr v.l, ptr v.x2, ptr v.x3] := by
  unfold workS workC
  rw [if_neg (by omega), if_pos hk, if_neg (by omega), if_pos hk]
  exact ⟨rfl, rfl⟩
theorem NdR.meet {w : World} {lab : Lab} {K : NK} {v : NdV} {a : NAbs} {N : Nat} (h : NdR w lab K v a N) (hk : K.kind = 3) : w.cell? ⟨v.k, 0, none⟩ = some (.pointer (some ⟨v.l, 0, none⟩)) ∧ w.cell? ⟨v.k, 1, none⟩ = some (.pointer (some ⟨v.x2, 0, none⟩)) ∧ w.cell? ⟨v.k, 2, none⟩ = some (.pointer (some ⟨v.x3, 0, none⟩)) := by
  have hb := h.wk
  rw [(workC_meet hk v).2] at hb
  exact ⟨hb.cell 0, hb.cell 1, hb.cell 2⟩
/-- a live rows' store in whatever state, beside the rest -/
structure LiveG (G : World → (Nat → Prop) → Prop) : Prop where
  chg : ∀ w w' B C, G w B → Chg C w w' → (∀ g, B g → ¬ C g) → G w' B
  mono : ∀ w B C, G w B → (∀ g, B g → C g) → G w C
/-- a call of the live rows' store beside the rest -/
theorem NdR.liveG {w w' : World} {lab : Lab} {K : NK} {v : NdV} {a : NAbs} {N : Nat} {G : World → (Nat → Prop) → Prop} (hG : LiveG G) (h : NdR w lab K v a N) {B' : Nat → Prop} (h1 : G w' B') (h2 : ∀ b, B' b → lab.own 1 b ∨ w.heap.size ≤ b) (h3 : ∀ b, B' b → b < w'.heap.size) (h4 : Chg (lab.own 1) w w') : ∃ lab', NdR w' lab' K v a N ∧ G w' (lab'.own 1) ∧ Step w lab w' lab' := by
  obtain ⟨lab', r1, r2, r3, r4, r5⟩ := h.turn 1 (v' := v) (a' := a) (N' := N) h2 h3 h4 (fun i hi hp => hp) trivial
  exact ⟨lab', r1, hG.mono _ _ _ h1 r2, r5⟩
/-- a call of the source's store that tells rows from T on -/
theorem NdR.groupM {w w' : World} {lab : Lab} {K : NK} {v : NdV} {a : NAbs} {N M T : Nat} {G : World → (Nat → Prop) → Prop} (hG : LiveG G) (h : NdR w lab K v a N) (hg : G w (lab.own 1)) (hM : N ≤ M) (hs : StSM w (lab.own 2) v.x2 (S2 K a) M w' T) : ∃ lab', NdR w' lab' K v a M ∧ G w' (lab'.own 1) ∧ Step w lab w' lab' ∧ (∀ b, lab'.dom b → b < T) ∧ w.heap.size ≤ T ∧ T ≤ w'.heap.size := by
  obtain ⟨B', h1, h2, h3', h4, h5, h6⟩ := hs
  obtain ⟨lab', r1, r2, r3, r4, r5⟩ := h.turn 2 (v' := v) (a' := a) (N' := M) h2 (fun b hb => by have := h3' b hb; omega) h4 (fun i hi hp => npart_mono (fun _ h => h) hM i hp) (fun _ => h1)
  exact ⟨lab', r1, by rw [r3 1 (by decide)]; exact hG.chg _ _ _ _ hg h4 (own_apart (by decide)), r5, fun b hb => (r4 b hb).elim (fun ⟨i, hi⟩ => by have := h.lt b i hi; omega) (h3' b), h5, h6⟩
theorem infoRw2 : (Tryz.prog.info? 28).map (fun i => (i.zero, i.size, i.bytes)) = some (some (.slice none 0 0), 1, 24) := by kernel_rfl
/-- rows that were told, cell by cell -/
theorem ToldA.cells {w : World} {P : Nat → Prop} {A : Option Addr} {n c : Nat} {rows : List (List V)} (h : ToldA w P A n c rows) : ∃ cells : List Value, cells.length = n ∧ OwnH w P 28 1 n (.slice A n c) cells ∧ Apart cells ∧ ∀ (i : Nat) (r : List V), rows[i]? = some r → ∃ Ai ci, cells[i]? = some (.slice Ai r.length ci) ∧ OwnH w P 85 3 r.length (.slice Ai r.length ci) (cellsR r) := by
  obtain ⟨h1, cells, h2, h3, h4⟩ := h
  refine ⟨cells, by have := h2.own.1; omega, h2, h4, fun i r hr => ?_⟩
  obtain ⟨cs, e1, -, ⟨Ai, ni, ci, e2, ho⟩, e4⟩ := h3.get hr
  have hn : ni = r.length := by have := ho.own.1; rw [cellsR_len] at this; omega
  subst hn
  refine ⟨Ai, ci, ?_, ho⟩
  have := e4 0 (by decide)
  rw [e2] at this
  simpa using this
/-- what the loop has gathered: the first i rows flipped (their memory is the group's), the first i rows touched -/
structure MtI (w0 wr : World) (D : Nat → Prop) (Pg : Nat → Prop) (ob rb i : Nat) (L : List (List V)) (cells : List Value) : Prop where
  out : ∃ AF cF AT cT PF PT cT2, Blk wr ob 38 #[.slice AF i cF, .slice AT i cT] ∧ OwnH wr PF 28 1 i (.slice AF i cF) (cells.take i) ∧
    OwnH wr PT 28 1 i (.slice AT i cT) cT2 ∧ Els (fun w cs r => ∃ A n c, cs = [.slice A n c] ∧ OwnH w PT 85 3 n (.slice A n c) (cellsR r)) 1 wr cT2 (L.take i) ∧ Apart cT2 ∧
    (∀ b, PF b → ¬ PT b) ∧ (∀ b, PF b ∨ PT b → w0.heap.size ≤ b ∧ b < wr.heap.size ∧ ¬ D b ∧ ¬ Pg b ∧ b ≠ ob ∧ b ≠ rb)
end Go.Proofs.YtahdiiaadjdmcaaGreat
