/-
  The document's store: Good, New.
  store: Len of a store, the law's own number, awake.
  The law's groups; the document's New.
  The document's New.
  The law's made: a store, the document's, and what was handed in is written over.
  StoreNews: the law.
-/
import Derived.Test.YtifloafhpeeepaaGreatGbN
namespace Go.Proofs.YtifloafhpeeepaaGreat
open Go.RowKit

end Go.Proofs.YtifloafhpeeepaaGreat

namespace Go.Proofs.YtifloafhpeeepaaGreat
open Go.RowKit

theorem lens_st {w : World} {B : Nat → Prop} {x : Nat} {S : SAbs} {N : Nat} (h : StI w B x S N) : Calls Tryz.prog 26 #[.pointer (some ⟨x, 0, none⟩)] w fun e w' => e = .returned (.int .i64 S.rows.length) ∧ Ext w w' := by
  obtain ⟨lab, v, D, P0, F0, h1, h2, h3, h4⟩ := h
  have h5 := len_st h1 h4.row
  rw [h3.x] at h5
  rw [h3.rows, List.length_map]
  exact h5
set_option maxRecDepth 100000 in
theorem num_st (n : Int) (w : World) : Calls Tryz.prog 53 #[.int .i64 n] w fun e w' => e = .returned (.agg #[.int .i64 1, .int .i64 n, .string ⟨#[]⟩]) ∧ Ext w w' := by
  have HE := hide ((Ext.alloc w (.cells #[.int .i64 1, .int .i64 n, .string ⟨#[]⟩] 43)))
  go_enter Tryz.func53, Tryz.ntmps53
  go_wp2_with fail
  refine bodyPost_ret (v := .agg #[.int .i64 1, .int .i64 n, .string ⟨#[]⟩]) (by simp [results, Tryz.results53, go_sem]) rfl ?_
  exact ⟨rfl, HE.out⟩
/-- all blocks of a store stand -/
theorem StI.lt {w : World} {B : Nat → Prop} {x : Nat} {S : SAbs} {N : Nat} (h : StI w B x S N) : ∃ B', StI w B' x S N ∧ (∀ b, B' b → B b) ∧ ∀ b, B' b → b < w.heap.size := by
  obtain ⟨lab, v, D, P0, F0, h1, h2, h3⟩ := h
  exact ⟨lab.dom, ⟨lab, v, D, P0, F0, h1, fun _ h => h, h3⟩, h2, fun b ⟨i, hi⟩ => h1.lt b i hi⟩
theorem new_good_st {w : World} {width most : Int} {A : Option Addr} {n : Nat} (c : Nat) {gs : List (List Int)} (hg : NumsAt w A n gs) (hn : n ≤ 1048576) (hl : ∀ g ∈ gs, g.length ≤ 1048576) (hz : goodS width most gs = 0) :
    Calls Tryz.prog 8 #[.int .i64 width, .int .i64 most, .slice A n c] w fun e w' => ∃ x B, e = .returned (.tuple #[.pointer (some ⟨x, 0, none⟩), .int .i64 0]) ∧ Ext w w' ∧ StI w' B x ⟨width.toNat, most.toNat, gs.map fun g => g.map Int.toNat, [], none⟩ 1 ∧ (∀ b, B b → w.heap.size ≤ b) ∧ ∀ b, B b → b < w'.heap.size := by
  refine (store_new width most c hg hn hl).mono ?_
  rintro e w' ⟨h0, ⟨h1, -⟩ | ⟨-, x, lab, v, rfl, hm, hf, hd⟩⟩
  · exact absurd hz h1
  · obtain ⟨k1, k2, k3, k4⟩ := goodS_ok hz
    obtain ⟨B, hI, hB, hlt⟩ := (Fresh.sti hm hf (by omega) (by omega) (by rw [List.length_map]; exact k3) k4).lt
    exact ⟨x, B, rfl, h0, hI, fun b hb => hd b (hB b hb), hlt⟩
def awR : List V := [⟨1, 5, .empty⟩]
def awS0 : SAbs := ⟨1, 2, [[0]], [], none⟩
def awS1 : SAbs := ⟨1, 2, [[0]], [awR], none⟩
theorem aw_nums (w : World) : NumsAt ((w.alloc (.cells #[.int .i64 0] 3)).alloc (.cells #[.slice (some ⟨w.heap.size, 0, none⟩) 1 1] 27)) (some ⟨w.heap.size + 1, 0, none⟩) 1 [[0]] := by
  have b0 := (Blk.new w 3 #[.int .i64 0]).ext (Ext.alloc _ (.cells #[.slice (some ⟨w.heap.size, 0, none⟩) 1 1] 27))
  have b1 := Blk.new (w.alloc (.cells #[.int .i64 0] 3)) 27 #[.slice (some ⟨w.heap.size, 0, none⟩) 1 1]
  rw [World.size_alloc] at b1
  refine ⟨rfl, _, b1.sl (n := 1) (size := 1) rfl, fun k g hg => ?_⟩
  cases k with
  | zero =>
    obtain rfl : [0] = g := by simpa using hg
    exact ⟨_, _, rfl, rfl, b0.sl (n := 1) (size := 1) rfl⟩
  | succ k => simp at hg
theorem aw_put : putS awS0 awR = (awS1, true, 0) := by kernel_rfl
theorem aw_grp : grpS awS1 0 awR = [awR] := by kernel_rfl
theorem aw_arg (w : World) : ArgR (w.alloc (.cells #[.int .i64 1, .int .i64 5, .string ⟨#[]⟩] 43)) (some ⟨w.heap.size, 0, none⟩) 1 awR := by
  refine ⟨RowAt.lit w awR 43, by decide, ?_, ?_⟩
  · intro v hv
    obtain rfl := List.mem_singleton.1 hv
    decide
  · intro v hv
    obtain rfl := List.mem_singleton.1 hv
    decide
set_option maxRecDepth 100000 in
set_option maxHeartbeats 2000000 in
theorem awake_st (w : World) : Calls Tryz.prog 19 #[] w fun e w' => e = .returned (.bool true) ∧ Ext w w' := by
  have HE := hide (show Ext w ((w.alloc (.cells #[.int .i64 0] 3)).alloc (.cells #[.slice (some ⟨w.heap.size, 0, none⟩) 1 1] 27)) from (Ext.alloc w _).alloc' _)
  have HN := hide (new_good_st (width := 1) (most := 2) 1 (aw_nums w) (by decide) (fun g hg => by obtain rfl := List.mem_singleton.1 hg; decide) (by decide))
  go_enter Tryz.func19, Tryz.ntmps19
  go_upto_region 2 with ((with_reducible refine HN.out.mono ?_); rintro e w1 ⟨x, B, rfl, x1, hI, hB, hlt⟩; have X1 := hide (HE.out.trans x1); have HI := hide (show StI w1 B x awS0 1 from hI); have HB := hide (show ∀ b, B b → w.heap.size ≤ b from fun b hb => Nat.le_trans HE.out.size (hB b hb)); have HL := hide hlt; clear x1 hI hB hlt HN)
  clear HE
  go_wp2_with fail
  refine (num_st 5 _).mono ?_
  rintro e w2 ⟨rfl, x2⟩
  have X2 := hide x2; clear x2
  have E3 := hide (Ext.alloc w2 (.cells #[.int .i64 1, .int .i64 5, .string ⟨#[]⟩] 43))
  have HP := hide (put_st ((HI.out.ext X2.out).ext E3.out) (by decide) 1 (aw_arg w2) (fun a ha hb => by injection ha with ha; subst ha; have h1 := HL.out _ hb; have h2 := X2.out.size; dsimp only at h1; omega))
  rw [aw_put] at HP
  go_wp2_with fail
  refine HP.out.mono ?_
  rintro e w4 ⟨rfl, B4, h4, hb4, hl4, hc4⟩
  have H4 := hide h4
  have HB4 := hide (show ∀ b, B4 b → w.heap.size ≤ b from fun b hb => (hb4 b hb).elim (HB.out b) fun h => by have h1 := X1.out.size; have h2 := X2.out.size; have h3 := E3.out.size; omega)
  have HL4 := hide hl4
  have X4 := hide (hc4.ext ((X1.out.trans X2.out).trans E3.out) HB.out)
  clear h4 hb4 hl4 hc4 HP X1 X2 E3 HI HB HL
  go_wp2_with fail
  refine (num_st 5 _).mono ?_
  rintro e w5 ⟨rfl, x5⟩
  have X5 := hide x5; clear x5
  have E6 := hide (Ext.alloc w5 (.cells #[.int .i64 1, .int .i64 5, .string ⟨#[]⟩] 43))
  have HG := hide (group_st ((H4.out.ext X5.out).ext E6.out) (by decide) (k := 0) (by decide) 1 (aw_arg w5))
  rw [aw_grp] at HG
  go_wp2_with fail
  refine HG.out.mono ?_
  rintro e w7 ⟨A7, c7, rfl, M7, -, B7, h7, -, -, hc7, -⟩
  have H7 := hide h7
  have X7 := hide (hc7.ext ((X4.out.trans X5.out).trans E6.out) HB4.out)
  clear h7 hc7 HG
  go_wp2_with fail
  refine (lens_st H7.out).mono ?_
  rintro e w8 ⟨rfl, x8⟩
  have X8 := hide (X7.out.trans x8); clear x8
  go_wp2_with fail
  go_ret
  exact ⟨rfl, X8.out⟩
end Go.Proofs.YtifloafhpeeepaaGreat

namespace Go.Proofs.YtifloafhpeeepaaGreat
open Go.RowKit

theorem set_next (vs : List Value) (z u : Value) (i n : Nat) (hv : vs.length = i) (hi : i < n) : (vs ++ List.replicate (n - i) z).toArray.setIfInBounds i u = ((vs ++ [u]) ++ List.replicate (n - (i + 1)) z).toArray := by
  obtain ⟨m, rfl⟩ : ∃ m, n = i + 1 + m := ⟨n - (i + 1), by omega⟩
  rw [show i + 1 + m - i = m + 1 by omega, show i + 1 + m - (i + 1) = m by omega]
  subst hv
  simp [List.replicate_succ]
/-- the first i rows are copied -/
def GrpI (w0 w : World) (ob n : Nat) (gs : List (List Int)) (i : Nat) : Prop :=
  ∃ vs : List Value, vs.length = i ∧ Blk w ob 27 (vs ++ List.replicate (n - i) (Value.slice none 0 0)).toArray ∧ Ext w0 w ∧ w0.heap.size ≤ ob ∧
    ∀ (j : Nat) (g : List Int), gs[j]? = some g → j < i → ∃ Ak ck, vs[j]? = some (.slice Ak g.length ck) ∧ OwnH w (fun b => w0.heap.size ≤ b) 3 1 g.length (.slice Ak g.length ck) (g.map (Value.int .i64))
theorem GrpI.step {w0 w w1 : World} {ob n i c : Nat} {gs : List (List Int)} {g : List Int} {A : Option Addr} (h : GrpI w0 w ob n gs i) (hg : gs[i]? = some g) (hi : i < n) (hx : Ext w w1) (ho : w1.ownsRow w.heap.size 3 1 (.slice A g.length c) g.length (g.map (Value.int .i64))) :
    GrpI w0 (w1.setCell ⟨ob, i, none⟩ (.slice A g.length c)) ob n gs (i + 1) := by
  obtain ⟨vs, h1, h2, h3, h4, h5⟩ := h
  have hb := h2.ext hx
  refine ⟨vs ++ [.slice A g.length c], by simp [h1], ?_, ext_setNew (h3.trans hx) h4 i _, h4, fun j q hq hj => ?_⟩
  · have := hb.set_ i (.slice A g.length c)
    rwa [set_next vs _ _ i n h1 hi] at this
  · rcases Nat.lt_or_ge j i with hj' | hj'
    · obtain ⟨Ak, ck, e, o⟩ := h5 j q hq hj'
      have o1 := o.ext hx
      exact ⟨Ak, ck, by rw [List.getElem?_append_left (by omega)]; exact e, o1.far hb (by decide) i _⟩
    · obtain rfl : j = i := by omega
      obtain rfl : g = q := Option.some.inj (hg.symm.trans hq)
      have o1 : OwnH w1 (fun b => w0.heap.size ≤ b) 3 1 g.length (.slice A g.length c) (g.map (Value.int .i64)) := ⟨own_base0 ho (Nat.zero_le _), fun b hb => Nat.le_trans h3.size (ho.lt b hb).1⟩
      exact ⟨A, c, by rw [List.getElem?_append_right (by omega), h1, Nat.sub_self]; rfl, o1.far hb (by decide) j _⟩
theorem GrpI.made {w0 w : World} {ob n : Nat} {gs : List (List Int)} (h : GrpI w0 w ob n gs n) (hn : n = gs.length) (hm : n ≤ 1048576) : GMade w (fun b => w0.heap.size ≤ b) (some ⟨ob, 0, none⟩) n n gs := by
  obtain ⟨vs, h1, h2, h3, h4, h5⟩ := h
  refine ⟨hn, vs, ⟨⟨by rw [h1, Nat.mul_one], .inr ⟨ob, n, _, rfl, Nat.zero_le _, h2, Nat.le_refl _, by unfold maxLen; omega, by simp [h1], by rw [Nat.mul_one, Nat.sub_self, List.replicate_zero, List.append_nil]; exact List.take_of_length_le (Nat.le_of_eq h1)⟩⟩, fun g hg => by simp [Value.ownBlock] at hg; omega⟩, fun j g hg => ?_⟩
  obtain ⟨Ak, ck, e, o⟩ := h5 j g hg (by have := (List.getElem?_eq_some_iff.1 hg).1; omega)
  exact ⟨Ak, ck, e, o⟩
end Go.Proofs.YtifloafhpeeepaaGreat

namespace Go.Proofs.YtifloafhpeeepaaGreat
open Go.RowKit

def dCells (width most : Int) (A : Option Addr) (n c : Nat) : Array Value := #[.int .i64 width, .int .i64 most, .slice A n c, .slice none 0 0, .bool false, .slice none 0 0]
/-- the document's store, new -/
def DNew (w0 w : World) (d : Nat) (width most : Int) (gs : List (List Int)) (i : Nat) : Prop :=
  ∃ A c, Blk w d 113 (dCells width most A i c) ∧ GMade w (fun b => w0.heap.size ≤ b ∧ b ≠ d) A i c (gs.take i) ∧ Ext w0 w ∧ w0.heap.size ≤ d
end Go.Proofs.YtifloafhpeeepaaGreat

namespace Go.Proofs.YtifloafhpeeepaaGreat
open Go.RowKit

theorem OwnH.any {w : World} {B : Nat → Prop} {e : TypeId} {s n : Nat} {v : Value} {xs : List Value} (h : OwnH w B e s n v xs) (b j : Nat) (u : Value) : ∃ xs', OwnH (w.setCell ⟨b, j, none⟩ u) B e s n v xs' := by
  rcases h.own.2 with h1 | ⟨g, cap, cur, h1, h2, h3, h4, h5, h6, h7⟩
  · exact ⟨xs, ⟨h.own.1, .inl h1⟩, h.inB⟩
  · have hb : Blk w g e cur := h3
    have hle : n * s ≤ cap * s := Nat.mul_le_mul_right _ h4
    by_cases hg : g = b
    · subst hg
      refine ⟨(cur.setIfInBounds j u).toList.take (n * s), ⟨?_, .inr ⟨g, cap, _, h1, h2, hb.set_ j u, h4, h5, by rw [Array.size_setIfInBounds]; exact h6, rfl⟩⟩, h.inB⟩
      rw [List.length_take, Array.length_toList, Array.size_setIfInBounds, h6]; omega
    · exact ⟨xs, ⟨h.own.1, .inr ⟨g, cap, cur, h1, h2, hb.far (p := ⟨b, j, none⟩) hg u, h4, h5, h6, h7⟩⟩, h.inB⟩
/-- rows of numbers of one's own, whatever the numbers are -/
def Mess (w : World) (B : Nat → Prop) (A : Option Addr) (n c : Nat) (ls : List Nat) : Prop :=
  n = ls.length ∧ ∃ vs, OwnH w B 27 1 n (.slice A n c) vs ∧ ∀ (j l : Nat), ls[j]? = some l → ∃ Ak ck xs, vs[j]? = some (.slice Ak l ck) ∧ OwnH w B 3 1 l (.slice Ak l ck) xs
theorem Mess.ext {w w' : World} {B : Nat → Prop} {A : Option Addr} {n c : Nat} {ls : List Nat} (h : Mess w B A n c ls) (hw : Ext w w') : Mess w' B A n c ls := by
  obtain ⟨h1, vs, h2, h3⟩ := h
  refine ⟨h1, vs, h2.ext hw, fun j l hl => ?_⟩
  obtain ⟨Ak, ck, xs, e, o⟩ := h3 j l hl
  exact ⟨Ak, ck, xs, e, o.ext hw⟩
theorem Mess.put {w : World} {B : Nat → Prop} {A : Option Addr} {n c : Nat} {ls : List Nat} (h : Mess w B A n c ls) {g : Nat} {cs : Array Value} (hb : Blk w g 3 cs) (j : Nat) (u : Value) : Mess (w.setCell ⟨g, j, none⟩ u) B A n c ls := by
  obtain ⟨h1, vs, h2, h3⟩ := h
  refine ⟨h1, vs, h2.far hb (by decide) j u, fun k l hl => ?_⟩
  obtain ⟨Ak, ck, xs, e, o⟩ := h3 k l hl
  obtain ⟨xs', o'⟩ := o.any g j u
  exact ⟨Ak, ck, xs', e, o'⟩
theorem Mess.row {w : World} {B : Nat → Prop} {A : Option Addr} {n c : Nat} {ls : List Nat} (h : Mess w B A n c ls) {i l : Nat} (hl : ls[i]? = some l) : ∃ ob Ak ck, A = some ⟨ob, 0, none⟩ ∧ w.cell? ⟨ob, i, none⟩ = some (.slice Ak l ck) ∧
    ∀ j, j < l → ∃ g cs v, Ak = some ⟨g, 0, none⟩ ∧ B g ∧ Blk w g 3 cs ∧ w.cell? ⟨g, j, none⟩ = some v := by
  obtain ⟨h1, vs, h2, h3⟩ := h
  have hi := (List.getElem?_eq_some_iff.1 hl).1
  obtain ⟨Ak, ck, xs, e, o⟩ := h3 i l hl
  obtain ⟨ob, rfl, -, -, hc, -⟩ := h2.at_ (by omega)
  refine ⟨ob, Ak, ck, rfl, hc i _ e, fun j hj => ?_⟩
  rcases o.own.2 with ⟨-, h0⟩ | ⟨g, cap, cur, k1, k2, k3, k4, k5, k6, k7⟩
  · omega
  · injection k1 with k1
    subst k1
    have hb : Blk w g 3 cur := k3
    exact ⟨g, cur, cur[j]'(by omega), rfl, o.inB g rfl, hb, by rw [hb.cell j]; exact Array.getElem?_eq_getElem (by omega)⟩
/-- what New says -/
def NewSays (width most : Int) (gs : List (List Int)) (w w' : World) (p : Option Addr) : Prop :=
  (goodS width most gs ≠ 0 ∧ p = none) ∨ (goodS width most gs = 0 ∧ ∃ x B, p = some ⟨x, 0, none⟩ ∧ StI w' B x ⟨width.toNat, most.toNat, gs.map fun g => g.map Int.toNat, [], none⟩ 1 ∧ (∀ b, B b → w.heap.size ≤ b) ∧ ∀ b, B b → b < w'.heap.size)
theorem NumsAt.made {w : World} {B : Nat → Prop} {A : Option Addr} {k c : Nat} {gs : List (List Int)} (h : GMade w B A k c gs) : NumsAt w A k gs := by
  obtain ⟨h1, vs, h2, h3⟩ := h
  refine ⟨h1, vs, Sl.own h2.own, fun j g hg => ?_⟩
  obtain ⟨Ak, ck, e, o⟩ := h3 j g hg
  exact ⟨Ak, ck, e, NumAt.own o.own⟩
/-- what made says -/
def MadeSays (width most : Int) (gs : List (List Int)) (n : Nat) (w w' : World) (e : Ending) : Prop :=
  Ext w w' ∧ ((goodS width most gs ≠ 0 ∧ e = .returned (.tuple #[.pointer none, .pointer none, .bool true])) ∨
    (goodS width most gs = 0 ∧ ∃ x d B w9, e = .returned (.tuple #[.pointer (some ⟨x, 0, none⟩), .pointer (some ⟨d, 0, none⟩), .bool true]) ∧ StI w' B x ⟨width.toNat, most.toNat, gs.map fun g => g.map Int.toNat, [], none⟩ 1 ∧ (∀ b, B b → w.heap.size ≤ b ∧ b < w9.heap.size) ∧ w.heap.size ≤ w9.heap.size ∧ DNew w9 w' d width most gs n))
end Go.Proofs.YtifloafhpeeepaaGreat

namespace Go.Proofs.YtifloafhpeeepaaGreat
open Go.RowKit

end Go.Proofs.YtifloafhpeeepaaGreat
