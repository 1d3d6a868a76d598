/-
  The document's store: Good, New.
  store: Len of a store, the law's own number, awake.
  The law's groups; the document's New.
  The document's New.
  The law's made: a store, the document's, and what was handed in is written over.
  StoreNews: the law.
-/
import Derived.Test.YtifloafhpeeepaaGreatGbN
namespace Go.Proofs.YtifloafhpeeepaaGreat
open Go.RowKit

set_option maxRecDepth 100000 in
set_option maxHeartbeats 2000000 in
theorem ref_good {w : World} (width most : Int) {A : Option Addr} {n : Nat} (c : Nat) {gs : List (List Int)} (hg : NumsAt w A n gs) (hn : n ≤ 1048576) (hl : ∀ g ∈ gs, g.length ≤ 1048576) :
    Calls Tryz.prog 21 #[.int .i64 width, .int .i64 most, .slice A n c] w fun e w' => e = .returned (.int .i64 (goodS width most gs)) ∧ w' = w := by
  have HG := hide hg
  obtain rfl := hg.1
  have HL := hide hl
  clear hg hl
  go_enter Tryz.func21, Tryz.ntmps21
  by_cases h60 : width < 0
  · go_wp2_with fail
    go_ret
    exact ⟨by rw [goodS_60 (.inl h60)]; rfl, rfl⟩
  by_cases h61 : 30 < width
  · go_wp2_with fail
    go_ret
    exact ⟨by rw [goodS_60 (.inr h61)]; rfl, rfl⟩
  by_cases h50 : most < 1
  · go_wp2_with fail
    go_ret
    exact ⟨by rw [goodS_50 (by omega) (.inl h50)]; rfl, rfl⟩
  by_cases h51 : 65536 < most
  · go_wp2_with fail
    go_ret
    exact ⟨by rw [goodS_50 (by omega) (.inr h51)]; rfl, rfl⟩
  have hall := hide (fun h => goodS_all (width := width) (most := most) (gs := gs) (by omega) (by omega) h)
  have h61' := hide (fun h => goodS_61 (width := width) (most := most) (gs := gs) (by omega) (by omega) h)
  obtain ⟨n, hnl⟩ : ∃ n, gs.length = n := ⟨_, rfl⟩
  rw [hnl] at HG hn hall h61' ⊢
  have HN := hide hnl
  clear hnl
  by_cases h4 : (4 : Int) < (n : Int)
  · go_wp2_with fail
    go_ret
    exact ⟨by rw [h61'.out (by omega)]; rfl, rfl⟩
  have h4n : ¬ 4 < n := by omega
  have HALL := hide (hall.out h4n)
  clear hall h61'
  go_wp2_with fail
  go_loopw [6, 7, 8, 9] (fun _ s7 _ _ w' => ∃ i : Nat, i ≤ n ∧ s7 = .int .i64 i ∧ Hid ((gs.take i).all (risesS width (-1)) = true) ∧ w = w') (fun _ s7 _ _ _ => n - (intOf s7).toNat)
  case atStart => exact ⟨0, by omega, rfl, rfl, rfl⟩
  case round =>
    obtain ⟨i, hin, rfl, hR, rfl⟩ := hrel
    by_cases hi : i < n
    · obtain ⟨g, hgi⟩ : ∃ g, gs[i]? = some g := ⟨_, List.getElem?_eq_getElem (by have := HN.out; omega)⟩
      have hgl := HL.out g (List.mem_of_getElem? hgi)
      obtain ⟨b, off, Ak, ck, rfl, ga, gk⟩ := HG.out.get hgi
      have GK := hide gk; have HGI := hide hgi
      clear gk hgi
      have hin2 : (i : Int) < (n : Int) := by omega
      obtain ⟨m, hm⟩ : ∃ m, g.length = m := ⟨_, rfl⟩
      rw [hm] at ga GK hgl
      have HML := hide hm
      clear hm
      go_wp2_with fail
      go_loopw [6, 8, 9] (fun _ s8 _ w' => ∃ (j : Nat) (last : Int), j ≤ m ∧ s8 = .int .i64 j ∧ Hid (risesS width (-1) g = risesS width last (g.drop j)) ∧ Hid ((j = 0 ∧ last = -1) ∨ (0 < j ∧ g[j - 1]? = some last ∧ 0 ≤ last)) ∧ w = w') (fun _ s8 _ _ => m - (intOf s8).toNat)
      case atStart => exact ⟨0, -1, by omega, rfl, rfl, .inl ⟨rfl, rfl⟩, rfl⟩
      case round =>
        obtain ⟨j, last, hjm, rfl, hq, hla, rfl⟩ := hrel
        by_cases hj : j < m
        · obtain ⟨b2, off2, cv, rfl, hcv, -, hcell⟩ := GK.out.get hj
          have hjm2 : (j : Int) < (m : Int) := by omega
          have hjl : j < g.length := by have := HML.out; omega
          have hst := hide (show risesS width (-1) g = (decide (last < cv) && (decide (cv < width) && risesS width cv (g.drop (j + 1)))) by
            rw [hq.out, List.drop_eq_getElem_cons hjl]
            rw [List.getElem?_eq_getElem hjl] at hcv
            rw [Option.some.inj hcv]; rfl)
          have HCV := hide hcv
          clear hcv hjl
          have hbad : Hid (¬ (last < cv ∧ cv < width) → goodS width most gs = 61) := fun hc => by
            rw [HALL.out, if_neg]
            rw [all_bad HGI.out (by
              rw [hst.out]
              by_cases h1 : last < cv
              · rw [decide_eq_false (p := cv < width) (fun h => hc ⟨h1, h⟩), Bool.false_and, Bool.and_false]
              · rw [decide_eq_false h1, Bool.false_and])]
            exact Bool.false_ne_true
          by_cases hc0 : cv < 0
          · go_wp2_with fail
            go_ret
            exact ⟨by rw [hbad.out (fun h => by rcases hla.out with h1 | h1 <;> omega)]; rfl, rfl⟩
          · by_cases hc2 : width ≤ cv
            · go_wp2_with fail
              go_ret
              exact ⟨by rw [hbad.out (fun h => by omega)]; rfl, rfl⟩
            · have hok : Hid (last < cv → risesS width (-1) g = risesS width cv (g.drop (j + 1))) := fun h => by
                rw [hst.out, decide_eq_true h, decide_eq_true (p := cv < width) (by omega)]; rfl
              rcases Nat.eq_zero_or_pos j with rfl | hj0
              · have hl1 : last = -1 := by rcases hla.out with h1 | h1 <;> omega
                have HOK := hide (hok.out (by omega))
                clear hl1 hok hbad
                simp only [Nat.add_zero] at hcell
                go_wp2_with fail
                go_roundw
                case rel => exact ⟨1, cv, by omega, by go_num, HOK, .inr ⟨by omega, by simpa using HCV.out, by omega⟩, trivial⟩
                case measure => simp [intOf]; omega
              · obtain ⟨j', rfl⟩ : ∃ j', j = j' + 1 := ⟨j - 1, by omega⟩
                have hla2 : g[j']? = some last ∧ 0 ≤ last := by
                  rcases hla.out with h1 | h1
                  · omega
                  · exact h1.2
                obtain ⟨b3, off3, pv, e3, hpv, -, hcell2⟩ := GK.out.get (show j' < m by omega)
                injection e3 with e3
                injection e3 with e3 e4
                subst e3; subst e4
                obtain rfl : last = pv := Option.some.inj (hla2.1.symm.trans hpv)
                have hj1 : (0 : Int) < ((j' + 1 : Nat) : Int) := by omega
                have hjw : (((j' + 1 : Nat) : Int) - 1) = (j' : Int) := by omega
                have hjm3 : (j' : Int) < (m : Int) := by omega
                clear hpv hla2 hla
                by_cases hcl : cv ≤ last
                · go_wp2_with fail
                  go_ret
                  exact ⟨by rw [hbad.out (fun h => by omega)]; rfl, rfl⟩
                · have HOK := hide (hok.out (by omega))
                  clear hok hbad
                  go_wp2_with fail
                  go_roundw
                  case rel => exact ⟨j' + 1 + 1, cv, by omega, by go_num, HOK, .inr ⟨by omega, by simpa using HCV.out, by omega⟩, trivial⟩
                  case measure => simp [intOf]; omega
        · obtain rfl : j = m := by omega
          have hgood : Hid (risesS width (-1) g = true) := by rw [hq.out, List.drop_eq_nil_of_le (by have := HML.out; omega)]; rfl
          clear hq hla
          go_wp2_with fail
          go_roundw
          case rel => exact ⟨i + 1, by omega, by go_num, hide (by rw [List.take_add_one, HGI.out, List.all_append, hR.out]; simp [hgood.out]), trivial⟩
          case measure => simp [intOf]; omega
    · obtain rfl : i = n := by omega
      have hz : goodS width most gs = 0 := by
        have h1 := hR.out
        rw [List.take_of_length_le (by have := HN.out; omega)] at h1
        rw [HALL.out, if_pos h1]
      have HZ := hide hz
      clear hz hR
      go_wp2_with fail
      go_ret
      exact ⟨by rw [HZ.out]; rfl, rfl⟩
end Go.Proofs.YtifloafhpeeepaaGreat

namespace Go.Proofs.YtifloafhpeeepaaGreat
open Go.RowKit

theorem lens_st {w : World} {B : Nat → Prop} {x : Nat} {S : SAbs} {N : Nat} (h : StI w B x S N) : Calls Tryz.prog 26 #[.pointer (some ⟨x, 0, none⟩)] w fun e w' => e = .returned (.int .i64 S.rows.length) ∧ Ext w w' := by
  obtain ⟨lab, v, D, P0, F0, h1, h2, h3, h4⟩ := h
  have h5 := len_st h1 h4.row
  rw [h3.x] at h5
  rw [h3.rows, List.length_map]
  exact h5
set_option maxRecDepth 100000 in
theorem num_st (n : Int) (w : World) : Calls Tryz.prog 53 #[.int .i64 n] w fun e w' => e = .returned (.agg #[.int .i64 1, .int .i64 n, .string ⟨#[]⟩]) ∧ Ext w w' := by
  have HE := hide ((Ext.alloc w (.cells #[.int .i64 1, .int .i64 n, .string ⟨#[]⟩] 43)))
  go_enter Tryz.func53, Tryz.ntmps53
  go_wp2_with fail
  refine bodyPost_ret (v := .agg #[.int .i64 1, .int .i64 n, .string ⟨#[]⟩]) (by simp [results, Tryz.results53, go_sem]) rfl ?_
  exact ⟨rfl, HE.out⟩
/-- all blocks of a store stand -/
theorem StI.lt {w : World} {B : Nat → Prop} {x : Nat} {S : SAbs} {N : Nat} (h : StI w B x S N) : ∃ B', StI w B' x S N ∧ (∀ b, B' b → B b) ∧ ∀ b, B' b → b < w.heap.size := by
  obtain ⟨lab, v, D, P0, F0, h1, h2, h3⟩ := h
  exact ⟨lab.dom, ⟨lab, v, D, P0, F0, h1, fun _ h => h, h3⟩, h2, fun b ⟨i, hi⟩ => h1.lt b i hi⟩
theorem new_good_st {w : World} {width most : Int} {A : Option Addr} {n : Nat} (c : Nat) {gs : List (List Int)} (hg : NumsAt w A n gs) (hn : n ≤ 1048576) (hl : ∀ g ∈ gs, g.length ≤ 1048576) (hz : goodS width most gs = 0) :
    Calls Tryz.prog 8 #[.int .i64 width, .int .i64 most, .slice A n c] w fun e w' => ∃ x B, e = .returned (.tuple #[.pointer (some ⟨x, 0, none⟩), .int .i64 0]) ∧ Ext w w' ∧ StI w' B x ⟨width.toNat, most.toNat, gs.map fun g => g.map Int.toNat, [], none⟩ 1 ∧ (∀ b, B b → w.heap.size ≤ b) ∧ ∀ b, B b → b < w'.heap.size := by
  refine (store_new width most c hg hn hl).mono ?_
  rintro e w' ⟨h0, ⟨h1, -⟩ | ⟨-, x, lab, v, rfl, hm, hf, hd⟩⟩
  · exact absurd hz h1
  · obtain ⟨k1, k2, k3, k4⟩ := goodS_ok hz
    obtain ⟨B, hI, hB, hlt⟩ := (Fresh.sti hm hf (by omega) (by omega) (by rw [List.length_map]; exact k3) k4).lt
    exact ⟨x, B, rfl, h0, hI, fun b hb => hd b (hB b hb), hlt⟩
theorem new_bad_st {w : World} {width most : Int} {A : Option Addr} {n : Nat} (c : Nat) {gs : List (List Int)} (hg : NumsAt w A n gs) (hn : n ≤ 1048576) (hl : ∀ g ∈ gs, g.length ≤ 1048576) (hz : goodS width most gs ≠ 0) :
    Calls Tryz.prog 8 #[.int .i64 width, .int .i64 most, .slice A n c] w fun e w' => e = .returned (.tuple #[.pointer none, .int .i64 (goodS width most gs)]) ∧ Ext w w' := by
  refine (store_new width most c hg hn hl).mono ?_
  rintro e w' ⟨h0, ⟨-, h1⟩ | ⟨h1, -⟩⟩
  · exact ⟨h1, h0⟩
  · exact absurd h1 hz
def awR : List V := [⟨1, 5, .empty⟩]
def awS0 : SAbs := ⟨1, 2, [[0]], [], none⟩
def awS1 : SAbs := ⟨1, 2, [[0]], [awR], none⟩
theorem aw_nums (w : World) : NumsAt ((w.alloc (.cells #[.int .i64 0] 3)).alloc (.cells #[.slice (some ⟨w.heap.size, 0, none⟩) 1 1] 27)) (some ⟨w.heap.size + 1, 0, none⟩) 1 [[0]] := by
  have b0 := (Blk.new w 3 #[.int .i64 0]).ext (Ext.alloc _ (.cells #[.slice (some ⟨w.heap.size, 0, none⟩) 1 1] 27))
  have b1 := Blk.new (w.alloc (.cells #[.int .i64 0] 3)) 27 #[.slice (some ⟨w.heap.size, 0, none⟩) 1 1]
  rw [World.size_alloc] at b1
  refine ⟨rfl, _, b1.sl (n := 1) (size := 1) rfl, fun k g hg => ?_⟩
  cases k with
  | zero =>
    obtain rfl : [0] = g := by simpa using hg
    exact ⟨_, _, rfl, rfl, b0.sl (n := 1) (size := 1) rfl⟩
  | succ k => simp at hg
theorem aw_put : putS awS0 awR = (awS1, true, 0) := by kernel_rfl
theorem aw_grp : grpS awS1 0 awR = [awR] := by kernel_rfl
theorem aw_arg (w : World) : ArgR (w.alloc (.cells #[.int .i64 1, .int .i64 5, .string ⟨#[]⟩] 43)) (some ⟨w.heap.size, 0, none⟩) 1 awR := by
  refine ⟨RowAt.lit w awR 43, by decide, ?_, ?_⟩
  · intro v hv
    obtain rfl := List.mem_singleton.1 hv
    decide
  · intro v hv
    obtain rfl := List.mem_singleton.1 hv
    decide
set_option maxRecDepth 100000 in
set_option maxHeartbeats 2000000 in
theorem awake_st (w : World) : Calls Tryz.prog 19 #[] w fun e w' => e = .returned (.bool true) ∧ Ext w w' := by
  have HE := hide (show Ext w ((w.alloc (.cells #[.int .i64 0] 3)).alloc (.cells #[.slice (some ⟨w.heap.size, 0, none⟩) 1 1] 27)) from (Ext.alloc w _).alloc' _)
  have HN := hide (new_good_st (width := 1) (most := 2) 1 (aw_nums w) (by decide) (fun g hg => by obtain rfl := List.mem_singleton.1 hg; decide) (by decide))
  go_enter Tryz.func19, Tryz.ntmps19
  go_upto_region 2 with ((with_reducible refine HN.out.mono ?_); rintro e w1 ⟨x, B, rfl, x1, hI, hB, hlt⟩; have X1 := hide (HE.out.trans x1); have HI := hide (show StI w1 B x awS0 1 from hI); have HB := hide (show ∀ b, B b → w.heap.size ≤ b from fun b hb => Nat.le_trans HE.out.size (hB b hb)); have HL := hide hlt; clear x1 hI hB hlt HN)
  clear HE
  go_wp2_with fail
  refine (num_st 5 _).mono ?_
  rintro e w2 ⟨rfl, x2⟩
  have X2 := hide x2; clear x2
  have E3 := hide (Ext.alloc w2 (.cells #[.int .i64 1, .int .i64 5, .string ⟨#[]⟩] 43))
  have HP := hide (put_st ((HI.out.ext X2.out).ext E3.out) (by decide) 1 (aw_arg w2) (fun a ha hb => by injection ha with ha; subst ha; have h1 := HL.out _ hb; have h2 := X2.out.size; dsimp only at h1; omega))
  rw [aw_put] at HP
  go_wp2_with fail
  refine HP.out.mono ?_
  rintro e w4 ⟨rfl, B4, h4, hb4, hl4, hc4⟩
  have H4 := hide h4
  have HB4 := hide (show ∀ b, B4 b → w.heap.size ≤ b from fun b hb => (hb4 b hb).elim (HB.out b) fun h => by have h1 := X1.out.size; have h2 := X2.out.size; have h3 := E3.out.size; omega)
  have HL4 := hide hl4
  have X4 := hide (hc4.ext ((X1.out.trans X2.out).trans E3.out) HB.out)
  clear h4 hb4 hl4 hc4 HP X1 X2 E3 HI HB HL
  go_wp2_with fail
  refine (num_st 5 _).mono ?_
  rintro e w5 ⟨rfl, x5⟩
  have X5 := hide x5; clear x5
  have E6 := hide (Ext.alloc w5 (.cells #[.int .i64 1, .int .i64 5, .string ⟨#[]⟩] 43))
  have HG := hide (group_st ((H4.out.ext X5.out).ext E6.out) (by decide) (k := 0) (by decide) 1 (aw_arg w5))
  rw [aw_grp] at HG
  go_wp2_with fail
  refine HG.out.mono ?_
  rintro e w7 ⟨A7, c7, rfl, M7, -, B7, h7, -, -, hc7, -⟩
  have H7 := hide h7
  have X7 := hide (hc7.ext ((X4.out.trans X5.out).trans E6.out) HB4.out)
  clear h7 hc7 HG
  go_wp2_with fail
  refine (lens_st H7.out).mono ?_
  rintro e w8 ⟨rfl, x8⟩
  have X8 := hide (X7.out.trans x8); clear x8
  go_wp2_with fail
  go_ret
  exact ⟨rfl, X8.out⟩
end Go.Proofs.YtifloafhpeeepaaGreat

namespace Go.Proofs.YtifloafhpeeepaaGreat
open Go.RowKit

theorem infoSI : (Tryz.prog.info? 27).map (fun i => (i.zero, i.size, i.bytes)) = some (some (.slice none 0 0), 1, 24) := by kernel_rfl
theorem set_next (vs : List Value) (z u : Value) (i n : Nat) (hv : vs.length = i) (hi : i < n) : (vs ++ List.replicate (n - i) z).toArray.setIfInBounds i u = ((vs ++ [u]) ++ List.replicate (n - (i + 1)) z).toArray := by
  obtain ⟨m, rfl⟩ : ∃ m, n = i + 1 + m := ⟨n - (i + 1), by omega⟩
  rw [show i + 1 + m - i = m + 1 by omega, show i + 1 + m - (i + 1) = m by omega]
  subst hv
  simp [List.replicate_succ]
/-- the first i rows are copied -/
def GrpI (w0 w : World) (ob n : Nat) (gs : List (List Int)) (i : Nat) : Prop :=
  ∃ vs : List Value, vs.length = i ∧ Blk w ob 27 (vs ++ List.replicate (n - i) (Value.slice none 0 0)).toArray ∧ Ext w0 w ∧ w0.heap.size ≤ ob ∧
    ∀ (j : Nat) (g : List Int), gs[j]? = some g → j < i → ∃ Ak ck, vs[j]? = some (.slice Ak g.length ck) ∧ OwnH w (fun b => w0.heap.size ≤ b) 3 1 g.length (.slice Ak g.length ck) (g.map (Value.int .i64))
theorem GrpI.step {w0 w w1 : World} {ob n i c : Nat} {gs : List (List Int)} {g : List Int} {A : Option Addr} (h : GrpI w0 w ob n gs i) (hg : gs[i]? = some g) (hi : i < n) (hx : Ext w w1) (ho : w1.ownsRow w.heap.size 3 1 (.slice A g.length c) g.length (g.map (Value.int .i64))) :
    GrpI w0 (w1.setCell ⟨ob, i, none⟩ (.slice A g.length c)) ob n gs (i + 1) := by
  obtain ⟨vs, h1, h2, h3, h4, h5⟩ := h
  have hb := h2.ext hx
  refine ⟨vs ++ [.slice A g.length c], by simp [h1], ?_, ext_setNew (h3.trans hx) h4 i _, h4, fun j q hq hj => ?_⟩
  · have := hb.set_ i (.slice A g.length c)
    rwa [set_next vs _ _ i n h1 hi] at this
  · rcases Nat.lt_or_ge j i with hj' | hj'
    · obtain ⟨Ak, ck, e, o⟩ := h5 j q hq hj'
      have o1 := o.ext hx
      exact ⟨Ak, ck, by rw [List.getElem?_append_left (by omega)]; exact e, o1.far hb (by decide) i _⟩
    · obtain rfl : j = i := by omega
      obtain rfl : g = q := Option.some.inj (hg.symm.trans hq)
      have o1 : OwnH w1 (fun b => w0.heap.size ≤ b) 3 1 g.length (.slice A g.length c) (g.map (Value.int .i64)) := ⟨own_base0 ho (Nat.zero_le _), fun b hb => Nat.le_trans h3.size (ho.lt b hb).1⟩
      exact ⟨A, c, by rw [List.getElem?_append_right (by omega), h1, Nat.sub_self]; rfl, o1.far hb (by decide) j _⟩
theorem GrpI.made {w0 w : World} {ob n : Nat} {gs : List (List Int)} (h : GrpI w0 w ob n gs n) (hn : n = gs.length) (hm : n ≤ 1048576) : GMade w (fun b => w0.heap.size ≤ b) (some ⟨ob, 0, none⟩) n n gs := by
  obtain ⟨vs, h1, h2, h3, h4, h5⟩ := h
  refine ⟨hn, vs, ⟨⟨by rw [h1, Nat.mul_one], .inr ⟨ob, n, _, rfl, Nat.zero_le _, h2, Nat.le_refl _, by unfold maxLen; omega, by simp [h1], by rw [Nat.mul_one, Nat.sub_self, List.replicate_zero, List.append_nil]; exact List.take_of_length_le (Nat.le_of_eq h1)⟩⟩, fun g hg => by simp [Value.ownBlock] at hg; omega⟩, fun j g hg => ?_⟩
  obtain ⟨Ak, ck, e, o⟩ := h5 j g hg (by have := (List.getElem?_eq_some_iff.1 hg).1; omega)
  exact ⟨Ak, ck, e, o⟩
set_option maxRecDepth 100000 in
theorem groups_st {w : World} {A : Option Addr} {n : Nat} (c : Nat) {gs : List (List Int)} (hg : NumsAt w A n gs) (hn : n ≤ 1048576) (hl : ∀ g ∈ gs, g.length ≤ 1048576) :
    Calls Tryz.prog 27 #[.slice A n c] w fun e w' => ∃ A' c', e = .returned (.slice A' n c') ∧ GMade w' (fun b => w.heap.size ≤ b) A' n c' gs ∧ Ext w w' := by
  obtain ⟨i0, hi0, hz0, hz1, hz2⟩ := info_parts infoSI
  have hmk := run_make_n (P := Tryz.prog) 28 27 i0 _ Tryz.underlying28 hi0 hz0 (by omega) .i64 .i64 n (by omega)
  simp only [hz1, Nat.mul_one, Value.cells] at hmk
  have HNL := hide hg.1
  have HN := hide hn
  have HE := hide (Ext.alloc w (.cells (madeCells #[.slice none 0 0] n) 27))
  have HG := hide hg; have HL := hide hl
  have HI0 := hide (show GrpI w (w.alloc (.cells (madeCells #[.slice none 0 0] n) 27)) w.heap.size n gs 0 from ⟨[], rfl, by
    have h1 := Blk.new w 27 (madeCells #[.slice none 0 0] n)
    have h2 : madeCells #[.slice none 0 0] n = (([] : List Value) ++ List.replicate (n - 0) (Value.slice none 0 0)).toArray := by
      have := fillAt_zero (List.replicate n (Value.slice none 0 0)) (.slice none 0 0)
      rw [List.length_replicate] at this
      rw [this, fillAt]; simp
    rw [← h2]; exact h1, HE.out, Nat.le_refl _, fun j g _ h => absurd h (by omega)⟩)
  clear hg hl hz1 hz2 hz0 hi0
  go_enter Tryz.func27, Tryz.ntmps27
  go_wp2_with fail
  generalize w.alloc (.cells (madeCells #[.slice none 0 0] n) 27) = w1 at *
  generalize hob : w.heap.size = ob at HI0 ⊢
  have HOB := hide hob
  clear hob hmk
  go_loopw [4, 10] (fun _ s10 w' => ∃ i : Nat, i ≤ n ∧ s10 = .int .i64 i ∧ Hid (GrpI w w' ob n gs i)) (fun _ s10 _ => n - (intOf s10).toNat)
  case atStart => exact ⟨0, by omega, rfl, HI0⟩
  case round =>
    obtain ⟨i, hin, rfl, hI⟩ := hrel
    have hX := hide (show Ext w wr from (by obtain ⟨vs, h1, h2, h3, _⟩ := hI.out; exact h3))
    by_cases hi : i < n
    · obtain ⟨g, hgi⟩ : ∃ g, gs[i]? = some g := ⟨_, List.getElem?_eq_getElem (by have := HNL.out; omega)⟩
      have hgl := HL.out g (List.mem_of_getElem? hgi)
      obtain ⟨b, off, Ak, ck, rfl, ga, gk⟩ := (HG.out.ext hX.out).get hgi
      have HGI := hide hgi
      have HIN := hide (ints_any g Ak g.length ck wr gk (by omega))
      have hin2 : (i : Int) < (n : Int) := by omega
      clear gk hgi
      obtain ⟨m, hm⟩ : ∃ m, g.length = m := ⟨_, rfl⟩
      rw [hm] at ga HIN hgl
      have HM := hide hm
      clear hm
      go_upto_region 6 with ((with_reducible refine HIN.out.mono ?_); rintro e w2 ⟨A2, c2, rfl, o2, x2⟩; have O2 := hide o2; have X2 := hide x2; have HS := hide (show ∃ cs, Blk w2 ob 27 cs ∧ i < cs.size from (by obtain ⟨vs, h1, h2, _⟩ := hI.out; exact ⟨_, h2.ext x2, by simp [h1]; omega⟩)); clear o2 x2; obtain ⟨cs, hb, hsz⟩ := HS.out; have v3 := hb.cell i; rw [Array.getElem?_eq_getElem hsz] at v3; have f3 := hb.frozen i; clear hb HS)
      have HN2 := hide (show GrpI w (w2.setCell ⟨ob, i, none⟩ (.slice A2 m c2)) ob n gs (i + 1) from by
        have h := HM.out
        subst h
        exact hI.out.step HGI.out hi X2.out O2.out)
      clear v3 f3
      go_wp2_with fail
      go_roundw
      case rel => exact ⟨i + 1, by omega, by go_num, HN2⟩
      case measure => simp [intOf]; omega
    · obtain rfl : i = n := by omega
      have HMD := hide (hI.out.made HNL.out HN.out)
      clear hI
      go_wp2_with fail
      go_ret
      exact ⟨_, _, rfl, HMD.out, hX.out⟩
end Go.Proofs.YtifloafhpeeepaaGreat

namespace Go.Proofs.YtifloafhpeeepaaGreat
open Go.RowKit

theorem GMade.pushD {w w8 : World} {B : Nat → Prop} {x : Nat} {cs : Array Value} {A A8 Ak : Option Addr} {k c c8 ck b0 : Nat} {gs : List (List Int)} {g : List Int} {vs : List Value} (h : GMade w B A k c gs) (hX : Blk w x 113 cs) (hg : OwnH w B 3 1 g.length (.slice Ak g.length ck) (g.map (Value.int .i64))) (hb0 : B b0)
    (h2 : OwnH w B 27 1 k (.slice A k c) vs) (h3 : ∀ (j : Nat) (g : List Int), gs[j]? = some g → ∃ Ak ck, vs[j]? = some (.slice Ak g.length ck) ∧ OwnH w B 3 1 g.length (.slice Ak g.length ck) (g.map (Value.int .i64)))
    (o8 : OwnH w8 (fun b => B b ∨ b = b0) 27 1 (k + 1) (.slice A8 (k + 1) c8) (vs ++ [.slice Ak g.length ck])) (G8 : w.grownBy w8 (Value.slice A k c).ownBlock) (u : Value) :
    GMade (w8.setCell ⟨x, 2, none⟩ u) B A8 (k + 1) c8 (gs ++ [g]) := by
  have h1 := h.len
  have hb8 := hX.grown G8 (own_ne_blk h2.own hX (by decide))
  refine ⟨by rw [List.length_append, h1]; rfl, vs ++ [.slice Ak g.length ck], ?_, fun j q hq => ?_⟩
  · have o9 := o8.far hb8 (by decide) 2 u
    exact ⟨o9.own, fun b hb => (o9.inB b hb).elim id fun e => e ▸ hb0⟩
  · have hvl : vs.length = k := by have := h2.own.1; omega
    rcases Nat.lt_or_ge j gs.length with hj | hj
    · rw [List.getElem?_append_left hj] at hq
      obtain ⟨Aj, cj, h4, h5⟩ := h3 j q hq
      exact ⟨Aj, cj, by rw [List.getElem?_append_left (by omega)]; exact h4, (h5.grown h2.own (by decide) G8).far hb8 (by decide) 2 u⟩
    · rw [List.getElem?_append_right hj] at hq
      have hj0 : j - gs.length = 0 := by
        have := (List.getElem?_eq_some_iff.1 hq).1
        simp at this; omega
      rw [hj0] at hq
      obtain rfl : g = q := by simpa using hq
      refine ⟨Ak, ck, ?_, (hg.grown h2.own (by decide) G8).far hb8 (by decide) 2 u⟩
      rw [List.getElem?_append_right (by omega), show j - vs.length = 0 by omega]; rfl
def dCells (width most : Int) (A : Option Addr) (n c : Nat) : Array Value := #[.int .i64 width, .int .i64 most, .slice A n c, .slice none 0 0, .bool false, .slice none 0 0]
/-- the document's store, new -/
def DNew (w0 w : World) (d : Nat) (width most : Int) (gs : List (List Int)) (i : Nat) : Prop :=
  ∃ A c, Blk w d 113 (dCells width most A i c) ∧ GMade w (fun b => w0.heap.size ≤ b ∧ b ≠ d) A i c (gs.take i) ∧ Ext w0 w ∧ w0.heap.size ≤ d
set_option maxRecDepth 100000 in
set_option maxHeartbeats 2000000 in
theorem ref_new_st {w : World} (width most : Int) {A : Option Addr} {n : Nat} (c : Nat) {gs : List (List Int)} (hg : NumsAt w A n gs) (hn : n ≤ 1048576) (hl : ∀ g ∈ gs, g.length ≤ 1048576) :
    Calls Tryz.prog 59 #[.int .i64 width, .int .i64 most, .slice A n c] w fun e w' => ∃ d, e = .returned (.pointer (some ⟨d, 0, none⟩)) ∧ DNew w w' d width most gs n := by
  have HNL := hide hg.1
  have HN := hide hn
  have HG := hide hg; have HL := hide hl
  have HI0 := hide (show DNew w (w.alloc (.cells (dCells width most none 0 0) 113)) w.heap.size width most gs 0 from ⟨none, 0, Blk.new _ _ _, GMade.nil _ _, Ext.alloc w _, Nat.le_refl _⟩)
  obtain ⟨i0, hi0, hz0, hz1, hz2⟩ := info_parts infoIs
  clear hg hl
  go_enter Tryz.func59, Tryz.ntmps59
  go_wp2_with fail
  generalize hd : w.heap.size = d at HI0 ⊢
  have HD := hide hd
  clear hd
  go_loopw [8] (fun s8 w' => ∃ i : Nat, i ≤ n ∧ s8 = .int .i64 i ∧ Hid (DNew w w' d width most gs i)) (fun s8 _ => n - (intOf s8).toNat)
  case atStart => exact ⟨0, by omega, rfl, HI0⟩
  case round =>
    obtain ⟨i, hin, rfl, hI⟩ := hrel
    by_cases hi : i < n
    · obtain ⟨g, hgi⟩ : ∃ g, gs[i]? = some g := ⟨_, List.getElem?_eq_getElem (by have := HNL.out; omega)⟩
      have hgl := HL.out g (List.mem_of_getElem? hgi)
      obtain ⟨GA, gc, x5, g5, e5, l5⟩ := hI.out
      have X5 := hide x5; have G5 := hide g5; have E5 := hide e5; have L5 := hide l5
      clear x5 g5 e5 l5 hI
      obtain ⟨b, off, Ak, ck, rfl, ga, gk⟩ := (HG.out.ext E5.out).get hgi
      have HGI := hide hgi
      have HIN := hide (fun (w1 : World) (h1 : Ext wr w1) => ints_any g Ak g.length ck w1 (gk.ext h1) (by omega))
      have hin2 : (i : Int) < (n : Int) := by omega
      clear gk hgi
      obtain ⟨m, hm⟩ : ∃ m, g.length = m := ⟨_, rfl⟩
      rw [hm] at ga HIN hgl
      have HM := hide hm
      clear hm
      have a2 : wr.cell? ⟨d, 2, none⟩ = some (.slice GA i gc) := X5.out.cell 2
      go_upto_region 5 with fail
      have a2 := cell_ext a2; have ga := cell_ext ga
      refine wp_region_extq 11 _ rfl (by kernel_rfl) (by kernel_rfl) (by kernel_rfl) (fun _ _ _ _ _ h => h) ?_
      refine ⟨_, _, ?_, rfl, ?_⟩; rotate_left
      refine ⟨⟨by kernel_rfl, fun w9 => ?_⟩, fun _ _ _ h => h, fun K hK => ?_⟩
      · go_simp; first | done | rfl
      go_simp; refine hK _ _ ?_; clear hK K
      iterate 8
        refine wpE_k (by kernel_rfl) (by kernel_rfl) ?_
        apply Exists.intro
        refine ⟨fun w1 hw1 => ?_, fun K hK => ?_⟩
        · go_simp; first | done | rfl
        go_simp; refine hK _ _ ?_; clear hK K
      refine wpE_p [] (fun u w1 => ∃ Ac cc, u = .slice Ac m cc ∧ w1.ownsRow wr.heap.size 3 1 (.slice Ac m cc) m (g.map (Value.int .i64))) (fun u w1 w2 _ h2 ⟨Ac, cc, h3, h4⟩ => ⟨Ac, cc, h3, hid_keep h4 h2⟩) rfl (by kernel_rfl) (fun w1 hw1 => ?_) ?_
      · clear a2 ga
        simp only [LookQ]
        go_simp
        refine ⟨Ext.refl _, (HIN.out w1 hw1).mono fun e w' h => ?_⟩
        obtain ⟨Ac, cc, rfl, h2, h3⟩ := h
        exact ⟨_, rfl, h3, Ac, cc, rfl, own_base0 h2 hw1.size⟩
      refine wpE_p [28] (fun u w1 => ∃ gb Ac cc, u = .slice (some ⟨gb, 0, none⟩) 1 1 ∧ wr.heap.size ≤ gb ∧ Blk w1 gb 27 #[.slice Ac m cc] ∧ w1.ownsRow wr.heap.size 3 1 (.slice Ac m cc) m (g.map (Value.int .i64))) (fun u w1 w2 _ h2 ⟨gb, Ac, cc, h3, h0, h4, h5⟩ => ⟨gb, Ac, cc, h3, h0, h4.ext h2, hid_keep h5 h2⟩) rfl (by kernel_rfl) (fun w1 hw1 => ?_) ?_
      · clear a2 ga
        simp only [LookQ]
        intro u hu
        obtain ⟨Ac, cc, rfl, h2⟩ := hu _ rfl
        clear hu
        go_simp
        exact ⟨Ext.alloc _ _, hw1.size, Ac, cc, Blk.new _ _ _, hid_keep h2 (Ext.alloc _ _)⟩
      refine wpE_nil ⟨rfl, by kernel_rfl, fun w5 hw5 => ?_⟩
      simp only [EndQ]
      rintro _ ⟨gb, Ac, cc, rfl, hgb0, hgb, hrow⟩ _ _
      simp only [List.drop, List.take, List.dropLast]
      clear a2 ga
      have X6 := hide (X5.out.ext hw5); have G6 := hide (G5.out.ext hw5); have E6 := hide (E5.out.trans hw5)
      have HS := hide (show Sl w5 (some ⟨gb, 0, none⟩) 1 1 [.slice Ac m cc] from hgb.sl rfl)
      have HONE := hide (show OneCells [Value.slice Ac m cc] from fun v hv => by simp at hv; rw [hv]; rfl)
      have HROW := hide (show OwnH w5 (fun b => w.heap.size ≤ b ∧ b ≠ d) 3 1 m (.slice Ac m cc) (g.map (Value.int .i64)) from ⟨own_base0 hrow (Nat.zero_le _), fun b hb => by
        have h1 := (hrow.lt b hb).1
        have h2 := X5.out.lt
        have h3 := E5.out.size
        exact ⟨by omega, by omega⟩⟩)
      have HSZ := hide (show w.heap.size ≤ w5.heap.size ∧ d < w5.heap.size from ⟨E6.out.size, X6.out.lt⟩)
      obtain ⟨vs, ov, hvs⟩ := G6.out.row
      have HV := hide (And.intro ov hvs)
      have HCL := hide (fun (A8 : Option Addr) (c8 : Nat) (w8 : World) (own8 : OwnH w8 (fun b => (w.heap.size ≤ b ∧ b ≠ d) ∨ b = w5.heap.size) 27 1 (i + 1) (.slice A8 (i + 1) c8) (vs ++ [.slice Ac m cc])) (G8 : w5.grownBy w8 (Value.slice GA i gc).ownBlock) (C8 : Chg (fun b => w.heap.size ≤ b ∧ b ≠ d) w5 w8) =>
        show DNew w (w8.setCell ⟨d, 2, none⟩ (.slice A8 (i + 1) c8)) d width most gs (i + 1) from by
          have hlen := HM.out
          subst hlen
          refine ⟨A8, c8, (X6.out.grown G8 (own_ne_blk HV.out.1.own X6.out (by decide))).set_ 2 _, ?_, ext_setNew (C8.ext E6.out fun b hb => hb.1) L5.out 2 _, L5.out⟩
          rw [List.take_add_one, HGI.out]
          exact GMade.pushD G6.out X6.out HROW.out ⟨HSZ.out.1, by have := HSZ.out.2; omega⟩ HV.out.1 HV.out.2 own8 G8 _)
      clear hgb hrow hw5 ov hvs X5 G5 E5
      go_wp2_with (at_builtin; refine wpList_append_b rfl (.tmp 23) (.tmp 29) _ rfl (fun b => w.heap.size ≤ b ∧ b ≠ d) 27 i0 _ 1 24 Tryz.underlying28 hi0 hz0 hz1 hz2 rfl (by omega) (.slice GA i gc) i vs rfl HV.out.1 _ 1 1 _ rfl HS.out HONE.out (by unfold maxLen; omega) (by omega) ?_; intro A8 c8 w8 own8 G8 C8)
      have hb8 := X6.out.grown G8.out (own_ne_blk HV.out.1.own X6.out (by decide))
      have f8 := hb8.frozen 2
      have v8 : w8.cell? ⟨d, 2, none⟩ = some (.slice GA i gc) := hb8.cell 2
      clear hb8
      have HNI := hide (HCL.out A8 c8 w8 own8.out G8.out C8.out)
      clear HCL own8 G8 C8 X6 G6 E6 HS HONE HROW HV
      simp only [exS]
      unfold wpS
      apply Exists.intro
      refine ⟨fun w9 => ?_, fun K hK => ?_⟩
      · go_simp; first | done | rfl
      go_simp; refine hK _ ?_; clear hK K
      unfold wpS
      apply Exists.intro
      refine ⟨fun w9 => ?_, fun K hK => ?_⟩
      · go_simp; first | done | rfl
      go_simp; refine hK _ ?_; clear hK K
      unfold wpS
      go_wp2_with fail
      go_wp2_with fail
      go_roundw
      case rel => exact ⟨i + 1, by omega, by go_num, HNI⟩
      case measure => simp [intOf]; omega
    · obtain rfl : i = n := by omega
      go_wp2_with fail
      go_ret
      exact ⟨_, rfl, hI.out⟩
end Go.Proofs.YtifloafhpeeepaaGreat

namespace Go.Proofs.YtifloafhpeeepaaGreat
open Go.RowKit

theorem OwnH.any {w : World} {B : Nat → Prop} {e : TypeId} {s n : Nat} {v : Value} {xs : List Value} (h : OwnH w B e s n v xs) (b j : Nat) (u : Value) : ∃ xs', OwnH (w.setCell ⟨b, j, none⟩ u) B e s n v xs' := by
  rcases h.own.2 with h1 | ⟨g, cap, cur, h1, h2, h3, h4, h5, h6, h7⟩
  · exact ⟨xs, ⟨h.own.1, .inl h1⟩, h.inB⟩
  · have hb : Blk w g e cur := h3
    have hle : n * s ≤ cap * s := Nat.mul_le_mul_right _ h4
    by_cases hg : g = b
    · subst hg
      refine ⟨(cur.setIfInBounds j u).toList.take (n * s), ⟨?_, .inr ⟨g, cap, _, h1, h2, hb.set_ j u, h4, h5, by rw [Array.size_setIfInBounds]; exact h6, rfl⟩⟩, h.inB⟩
      rw [List.length_take, Array.length_toList, Array.size_setIfInBounds, h6]; omega
    · exact ⟨xs, ⟨h.own.1, .inr ⟨g, cap, cur, h1, h2, hb.far (p := ⟨b, j, none⟩) hg u, h4, h5, h6, h7⟩⟩, h.inB⟩
/-- rows of numbers of one's own, whatever the numbers are -/
def Mess (w : World) (B : Nat → Prop) (A : Option Addr) (n c : Nat) (ls : List Nat) : Prop :=
  n = ls.length ∧ ∃ vs, OwnH w B 27 1 n (.slice A n c) vs ∧ ∀ (j l : Nat), ls[j]? = some l → ∃ Ak ck xs, vs[j]? = some (.slice Ak l ck) ∧ OwnH w B 3 1 l (.slice Ak l ck) xs
theorem GMade.mess {w : World} {B : Nat → Prop} {A : Option Addr} {k c : Nat} {gs : List (List Int)} (h : GMade w B A k c gs) : Mess w B A k c (gs.map List.length) := by
  obtain ⟨h1, vs, h2, h3⟩ := h
  refine ⟨by rw [List.length_map]; exact h1, vs, h2, fun j l hl => ?_⟩
  rw [List.getElem?_map] at hl
  obtain ⟨g, hg, rfl⟩ := Option.map_eq_some_iff.1 hl
  obtain ⟨Ak, ck, e, o⟩ := h3 j g hg
  exact ⟨Ak, ck, _, e, o⟩
theorem Mess.ext {w w' : World} {B : Nat → Prop} {A : Option Addr} {n c : Nat} {ls : List Nat} (h : Mess w B A n c ls) (hw : Ext w w') : Mess w' B A n c ls := by
  obtain ⟨h1, vs, h2, h3⟩ := h
  refine ⟨h1, vs, h2.ext hw, fun j l hl => ?_⟩
  obtain ⟨Ak, ck, xs, e, o⟩ := h3 j l hl
  exact ⟨Ak, ck, xs, e, o.ext hw⟩
theorem Mess.put {w : World} {B : Nat → Prop} {A : Option Addr} {n c : Nat} {ls : List Nat} (h : Mess w B A n c ls) {g : Nat} {cs : Array Value} (hb : Blk w g 3 cs) (j : Nat) (u : Value) : Mess (w.setCell ⟨g, j, none⟩ u) B A n c ls := by
  obtain ⟨h1, vs, h2, h3⟩ := h
  refine ⟨h1, vs, h2.far hb (by decide) j u, fun k l hl => ?_⟩
  obtain ⟨Ak, ck, xs, e, o⟩ := h3 k l hl
  obtain ⟨xs', o'⟩ := o.any g j u
  exact ⟨Ak, ck, xs', e, o'⟩
theorem Mess.row {w : World} {B : Nat → Prop} {A : Option Addr} {n c : Nat} {ls : List Nat} (h : Mess w B A n c ls) {i l : Nat} (hl : ls[i]? = some l) : ∃ ob Ak ck, A = some ⟨ob, 0, none⟩ ∧ w.cell? ⟨ob, i, none⟩ = some (.slice Ak l ck) ∧
    ∀ j, j < l → ∃ g cs v, Ak = some ⟨g, 0, none⟩ ∧ B g ∧ Blk w g 3 cs ∧ w.cell? ⟨g, j, none⟩ = some v := by
  obtain ⟨h1, vs, h2, h3⟩ := h
  have hi := (List.getElem?_eq_some_iff.1 hl).1
  obtain ⟨Ak, ck, xs, e, o⟩ := h3 i l hl
  obtain ⟨ob, rfl, -, -, hc, -⟩ := h2.at_ (by omega)
  refine ⟨ob, Ak, ck, rfl, hc i _ e, fun j hj => ?_⟩
  rcases o.own.2 with ⟨-, h0⟩ | ⟨g, cap, cur, k1, k2, k3, k4, k5, k6, k7⟩
  · omega
  · injection k1 with k1
    subst k1
    have hb : Blk w g 3 cur := k3
    exact ⟨g, cur, cur[j]'(by omega), rfl, o.inB g rfl, hb, by rw [hb.cell j]; exact Array.getElem?_eq_getElem (by omega)⟩
/-- what New says -/
def NewSays (width most : Int) (gs : List (List Int)) (w w' : World) (p : Option Addr) : Prop :=
  (goodS width most gs ≠ 0 ∧ p = none) ∨ (goodS width most gs = 0 ∧ ∃ x B, p = some ⟨x, 0, none⟩ ∧ StI w' B x ⟨width.toNat, most.toNat, gs.map fun g => g.map Int.toNat, [], none⟩ 1 ∧ (∀ b, B b → w.heap.size ≤ b) ∧ ∀ b, B b → b < w'.heap.size)
theorem new_any_st {w : World} (width most : Int) {A : Option Addr} {n : Nat} (c : Nat) {gs : List (List Int)} (hg : NumsAt w A n gs) (hn : n ≤ 1048576) (hl : ∀ g ∈ gs, g.length ≤ 1048576) :
    Calls Tryz.prog 8 #[.int .i64 width, .int .i64 most, .slice A n c] w fun e w' => ∃ p, e = .returned (.tuple #[.pointer p, .int .i64 (goodS width most gs)]) ∧ Ext w w' ∧ NewSays width most gs w w' p := by
  by_cases hz : goodS width most gs = 0
  · refine (new_good_st c hg hn hl hz).mono ?_
    rintro e w' ⟨x, B, rfl, h1, h2, h3, h4⟩
    exact ⟨_, by rw [hz], h1, .inr ⟨hz, x, B, rfl, h2, h3, h4⟩⟩
  · refine (new_bad_st c hg hn hl hz).mono ?_
    rintro e w' ⟨rfl, h1⟩
    exact ⟨_, rfl, h1, .inl ⟨hz, rfl⟩⟩
theorem NumsAt.made {w : World} {B : Nat → Prop} {A : Option Addr} {k c : Nat} {gs : List (List Int)} (h : GMade w B A k c gs) : NumsAt w A k gs := by
  obtain ⟨h1, vs, h2, h3⟩ := h
  refine ⟨h1, vs, Sl.own h2.own, fun j g hg => ?_⟩
  obtain ⟨Ak, ck, e, o⟩ := h3 j g hg
  exact ⟨Ak, ck, e, NumAt.own o.own⟩
/-- what made says -/
def MadeSays (width most : Int) (gs : List (List Int)) (n : Nat) (w w' : World) (e : Ending) : Prop :=
  Ext w w' ∧ ((goodS width most gs ≠ 0 ∧ e = .returned (.tuple #[.pointer none, .pointer none, .bool true])) ∨
    (goodS width most gs = 0 ∧ ∃ x d B w9, e = .returned (.tuple #[.pointer (some ⟨x, 0, none⟩), .pointer (some ⟨d, 0, none⟩), .bool true]) ∧ StI w' B x ⟨width.toNat, most.toNat, gs.map fun g => g.map Int.toNat, [], none⟩ 1 ∧ (∀ b, B b → w.heap.size ≤ b ∧ b < w9.heap.size) ∧ w.heap.size ≤ w9.heap.size ∧ DNew w9 w' d width most gs n))
set_option maxRecDepth 100000 in
set_option maxHeartbeats 2000000 in
theorem made_st {w : World} (width most : Int) {A : Option Addr} {n : Nat} (c : Nat) {gs : List (List Int)} (hg : NumsAt w A n gs) (hn : n ≤ 1048576) (hl : ∀ g ∈ gs, g.length ≤ 1048576) :
    Calls Tryz.prog 33 #[.int .i64 width, .int .i64 most, .slice A n c] w fun e w' => MadeSays width most gs n w w' e := by
  have HGR := hide (groups_st c hg hn hl)
  have HG := hide hg; have HL := hide hl; have HN := hide hn; have HNL := hide hg.1
  clear hg hl
  go_enter Tryz.func33, Tryz.ntmps33
  go_upto_region 2 with ((with_reducible refine HGR.out.mono ?_); rintro e w1 ⟨A1, c1, rfl, hm1, x1⟩; have M1 := hide hm1; have X1 := hide x1; clear hm1 x1)
  have HNW := hide (new_any_st width most c1 (NumsAt.made M1.out) HN.out HL.out)
  go_upto_region 3 with ((with_reducible refine HNW.out.mono ?_); rintro e w2 ⟨p, rfl, x2, hs⟩; have X2 := hide x2; have HS := hide hs; clear x2 hs)
  have HGD := hide (ref_good width most c (HG.out.ext (X1.out.trans X2.out)) HN.out HL.out)
  obtain ⟨F, hF⟩ : ∃ F, goodS width most gs = F := ⟨_, rfl⟩
  rw [hF] at HGD ⊢
  have HF := hide hF
  clear HNW HGR
  go_upto_region 4 with ((with_reducible refine HGD.out.mono ?_); rintro e w3 ⟨rfl, rfl⟩)
  obtain ⟨ls, hls⟩ : ∃ ls, gs.map List.length = ls := ⟨_, rfl⟩
  have HM := hide (M1.out.bound.mess.ext X2.out)
  rw [hls] at HM
  have HLL := hide (show ∀ l ∈ ls, l ≤ 1048576 from fun l hl => by
    rw [← hls] at hl
    obtain ⟨g, hg, rfl⟩ := List.mem_map.1 hl
    exact HL.out g hg)
  clear hls HGD hF
  go_wp2_with fail
  have HNS := hide (HM.out.1)
  go_loopw [13, 14, 30] (fun _ _ s30 w' => ∃ i : Nat, i ≤ n ∧ s30 = .int .i64 i ∧ Hid (Mess w' (fun b => w.heap.size ≤ b ∧ b < w1.heap.size) A1 n c1 ls) ∧ Hid (Chg (fun b => w.heap.size ≤ b ∧ b < w1.heap.size) w3 w')) (fun _ _ s30 _ => n - (intOf s30).toNat)
  case atStart => exact ⟨0, by omega, rfl, HM, Chg.refl _ _⟩
  case round =>
    obtain ⟨i, hin, rfl, hM, hC⟩ := hrel
    by_cases hi : i < n
    · obtain ⟨l, hli⟩ : ∃ l, ls[i]? = some l := ⟨_, List.getElem?_eq_getElem (by have := HNS.out; omega)⟩
      have hll := HLL.out l (List.mem_of_getElem? hli)
      have HLI := hide hli
      clear hli
      obtain ⟨ob, Ak, ck, rfl, ga, -⟩ := hM.out.row HLI.out
      have hin2 : (i : Int) < (n : Int) := by omega
      go_wp2_with fail
      clear ga
      go_loopw [14, 38] (fun _ s38 w' => ∃ j : Nat, j ≤ l ∧ s38 = .int .i64 j ∧ Hid (Mess w' (fun b => w.heap.size ≤ b ∧ b < w1.heap.size) (some ⟨ob, 0, none⟩) n c1 ls) ∧ Hid (Chg (fun b => w.heap.size ≤ b ∧ b < w1.heap.size) w3 w')) (fun _ s38 _ => l - (intOf s38).toNat)
      case atStart => exact ⟨0, by omega, rfl, hM, hC⟩
      case round =>
        obtain ⟨j, hjl, rfl, hM2, hC2⟩ := hrel
        by_cases hj : j < l
        · have hjl2 : (j : Int) < (l : Int) := by omega
          obtain ⟨ob2, Ak2, ck2, e2, ga, hrow⟩ := hM2.out.row HLI.out
          injection e2 with e2
          injection e2 with e2
          subst e2
          obtain ⟨g, cs, v, rfl, hB, hb, hv⟩ := hrow j hj
          have hf := hb.frozen j
          have HM3 := hide (hM2.out.put hb j (.int .i64 (-9)))
          have HC3 := hide (Chg.setCell (B := fun b => w.heap.size ≤ b ∧ b < w1.heap.size) hC2.out (p := ⟨g, j, none⟩) (.inl hB) (.int .i64 (-9)))
          clear hrow hb hB
          go_wp2_with fail
          go_roundw
          case rel => exact ⟨j + 1, by omega, by go_num, HM3, HC3⟩
          case measure => simp [intOf]; omega
        · obtain rfl : j = l := by omega
          go_wp2_with fail
          go_roundw
          case rel => exact ⟨i + 1, by omega, by go_num, hM2, hC2⟩
          case measure => simp [intOf]; omega
    · obtain rfl : i = n := by omega
      have X3 := hide (show Ext w wr from hC.out.ext (X1.out.trans X2.out) fun g hg => hg.1)
      have HRN := hide (ref_new_st width most c (HG.out.ext X3.out) HN.out HL.out)
      rcases HS.out with ⟨hz, rfl⟩ | ⟨hz, x, B, rfl, h1, h2, h3⟩
      · have hf0 : (F != 0) = true := by rw [HF.out] at hz; simpa using hz
        have hz' : F ≠ 0 := by rw [HF.out] at hz; exact hz
        have HZ := hide hz'
        clear hz hz'
        go_wp2_with fail
        go_ret3
        exact ⟨X3.out, .inl ⟨by rw [HF.out]; exact HZ.out, rfl⟩⟩
      · have hf0 : F = 0 := HF.out.symm.trans hz
        subst hf0
        have HI := hide (h1.chg hC.out fun g hg hc => by have := h2 g hg; have := hc.2; omega)
        have HB := hide (show ∀ b, B b → w.heap.size ≤ b ∧ b < wr.heap.size from fun b hb => ⟨Nat.le_trans X1.out.size (h2 b hb), Nat.lt_of_lt_of_le (h3 b hb) hC.out.size⟩)
        clear h1 h2 h3 hz
        go_wp2_with ((with_reducible refine HRN.out.mono ?_); rintro e w5 ⟨d, rfl, hd⟩; have HD := hide hd; clear hd)
        go_ret3
        obtain ⟨_, _, _, _, hE, _⟩ := HD.out
        exact ⟨X3.out.trans hE, .inr ⟨HF.out, x, d, B, wr, rfl, HI.out.ext hE, HB.out, X3.out.size, HD.out⟩⟩
end Go.Proofs.YtifloafhpeeepaaGreat

namespace Go.Proofs.YtifloafhpeeepaaGreat
open Go.RowKit

end Go.Proofs.YtifloafhpeeepaaGreat
