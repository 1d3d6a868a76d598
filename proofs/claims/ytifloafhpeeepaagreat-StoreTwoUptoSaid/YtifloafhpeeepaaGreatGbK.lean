/-
  StoreTwo: two stores, each beside the document's.
  StoreTwo: the law.
-/
import Derived.Test.YtifloafhpeeepaaGreatGbJ
namespace Go.Proofs.YtifloafhpeeepaaGreat
open Go.RowKit

/-- two stores with their documents', apart from each other and from O -/
def TwoI (w0 w : World) (x d y e N M : Nat) (O : Nat → Prop) : Prop :=
  ∃ B P S C Q T, PI w B P x S N d S ∧ PI w C Q y T M e T ∧ (∀ b, B b ∨ P b → ¬ (C b ∨ Q b)) ∧ (∀ b, (B b ∨ P b) ∨ (C b ∨ Q b) → w0.heap.size ≤ b ∧ ¬ O b) ∧ Ext w0 w ∧ ∀ b, O b → b < w.heap.size
section
variable {w0 w w' : World} {x d y e N M N' : Nat} {O : Nat → Prop} {B P C Q : Nat → Prop} {S S' T : SAbs}
theorem TwoI.swap (h : TwoI w0 w x d y e N M O) : TwoI w0 w y e x d M N O := by
  obtain ⟨B, P, S, C, Q, T, h1, h2, h3, h4, h5, h6⟩ := h
  exact ⟨C, Q, T, B, P, S, h2, h1, fun b h k => h3 b k h, fun b h => h4 b h.symm, h5, h6⟩
theorem TwoI.ext (h : TwoI w0 w x d y e N M O) (hw : Ext w w') : TwoI w0 w' x d y e N M (fun b => w.heap.size ≤ b ∧ b < w'.heap.size) := by
  obtain ⟨B, P, S, C, Q, T, h1, h2, h3, h4, h5, h6⟩ := h
  refine ⟨B, P, S, C, Q, T, h1.ext hw, h2.ext hw, h3, fun b hb => ⟨(h4 b hb).1, fun ho => ?_⟩, h5.trans hw, fun b hb => hb.2⟩
  rcases hb with (hb | hb) | (hb | hb)
  · have := h1.bl b hb; omega
  · have := h1.pl b hb; omega
  · have := h2.bl b hb; omega
  · have := h2.pl b hb; omega
theorem TwoI.far (h : TwoI w0 w x d y e N M O) : TwoI w0 w x d y e N M (fun _ => False) := by
  obtain ⟨B, P, S, C, Q, T, h1, h2, h3, h4, h5, h6⟩ := h
  exact ⟨B, P, S, C, Q, T, h1, h2, h3, fun b hb => ⟨(h4 b hb).1, id⟩, h5, fun b hb => hb.elim⟩
theorem TwoI.out (h : TwoI w0 w x d y e N M O) : Ext w0 w := by
  obtain ⟨B, P, S, C, Q, T, h1, h2, h3, h4, h5, h6⟩ := h
  exact h5
theorem TwoI.step (h1 : PI w B P x S N d S) (h2 : PI w C Q y T M e T) (h3 : ∀ b, B b ∨ P b → ¬ (C b ∨ Q b)) (h4 : ∀ b, (B b ∨ P b) ∨ (C b ∨ Q b) → w0.heap.size ≤ b ∧ ¬ O b) (h5 : Ext w0 w) (h6 : ∀ b, O b → b < w.heap.size) (hp : PS w B P w' x S' N' d) :
    TwoI w0 w' x d y e N' M O ∧ Chg (fun b => B b ∨ P b) w w' := by
  obtain ⟨B', P', k1, k2, k3, k4⟩ := hp
  have hsz := k4.size
  have hs0 := h5.size
  have key : ∀ b, B' b ∨ P' b → (B b ∨ P b) ∨ w.heap.size ≤ b := fun b hb => hb.elim (fun h => (k2 b h).imp .inl id) fun h => (k3 b h).imp .inr id
  refine ⟨⟨B', P', S', C, Q, T, k1, h2.chg k4 (fun b hb hx => h3 b hx (.inl hb)) (fun b hb hx => h3 b hx (.inr hb)), fun b hb hc => ?_, fun b hb => ?_, ext_chg h5 k4 (fun b hb => (h4 b (.inl hb)).1), fun b hb => Nat.lt_of_lt_of_le (h6 b hb) hsz⟩, k4⟩
  · rcases key b hb with h | h
    · exact h3 b h hc
    · rcases hc with hc | hc
      · have := h2.bl b hc; omega
      · have := h2.pl b hc; omega
  · rcases hb with hb | hb
    · rcases key b hb with h | h
      · exact h4 b (.inl h)
      · exact ⟨by omega, fun ho => by have := h6 b ho; omega⟩
    · exact h4 b (.inr hb)
theorem TwoI.go (h : TwoI w0 w x d y e N M O) (hN : N + 2 ≤ 8388608) {kind kk : Int} {row : List V} {A9 : Option Addr} {n9 : Nat} (c9 : Nat) (ha : ArgR w A9 n9 row) (hA : ∀ a, A9 = some a → row ≠ [] → a.block < w0.heap.size) :
    Calls Tryz.prog 34 #[.pointer (some ⟨x, 0, none⟩), .pointer (some ⟨d, 0, none⟩), .agg #[.int .i64 kind, .int .i64 kk, .slice A9 n9 c9]] w fun en w' => en = .returned (.bool true) ∧ TwoI w0 w' x d y e (N + 2) M O ∧ ∀ ob t cs, O ob → Blk w ob t cs → Blk w' ob t cs := by
  obtain ⟨B, P, S, C, Q, T, h1, h2, h3, h4, h5, h6⟩ := h
  refine (changes_st h1 hN c9 ha fun a ha hr => ?_).mono fun en w' hk => ?_
  · have h7 := hA a ha hr
    exact ⟨fun hb => by have := (h4 _ (.inl (.inl hb))).1; omega, fun hb => by have := (h4 _ (.inl (.inr hb))).1; omega⟩
  · obtain ⟨k1, k2⟩ := TwoI.step h1 h2 h3 h4 h5 h6 hk.2
    exact ⟨hk.1, k1, fun ob t cs ho hb => k2.blk hb fun hx => (h4 ob (.inl hx)).2 ho⟩
theorem TwoI.same (h : TwoI w0 w x d y e N M O) (hN : N + 800000 ≤ 8388608) :
    Calls Tryz.prog 36 #[.pointer (some ⟨x, 0, none⟩), .pointer (some ⟨d, 0, none⟩)] w fun en w' => en = .returned (.bool true) ∧ TwoI w0 w' x d y e (N + 800000) M O := by
  obtain ⟨B, P, S, C, Q, T, h1, h2, h3, h4, h5, h6⟩ := h
  exact (same_st h1 hN).mono fun en w' hk => ⟨hk.1, (TwoI.step h1 h2 h3 h4 h5 h6 hk.2).1⟩
end
theorem nums_nil (w : World) : NumsAt w none 0 [] := ⟨rfl, [], Sl.nil _ _ _, fun j g hg => by simp at hg⟩
/-- the second store -/
theorem made_two {w0 w : World} (hw : Ext w0 w) {x d N : Nat} {B P : Nat → Prop} {S : SAbs} (h : PI w B P x S N d S) (hb : ∀ b, B b ∨ P b → w0.heap.size ≤ b) :
    Calls Tryz.prog 33 #[.int .i64 3, .int .i64 40, .slice none 0 0] w fun en w' => ∃ y e, en = .returned (.tuple #[.pointer (some ⟨y, 0, none⟩), .pointer (some ⟨e, 0, none⟩), .bool true]) ∧ TwoI w0 w' x d y e N 1 (fun _ => False) := by
  refine (made_pi (w := w) 40 0 (nums_nil w) (by omega) (by simp)).mono fun en w' hk => ?_
  obtain ⟨h1, ⟨h2, -⟩ | ⟨-, y, e, C, Q, T, h2, h3, h4⟩⟩ := hk
  · exact absurd (by decide) h2
  · refine ⟨y, e, h2, B, P, S, C, Q, T, h.ext h1, h3, fun b hb hc => ?_, fun b hbc => ⟨?_, id⟩, hw.trans h1, fun b hb => hb.elim⟩
    · have h5 := h4 b hc
      rcases hb with hb | hb
      · have := h.bl b hb; omega
      · have := h.pl b hb; omega
    · rcases hbc with hb2 | hb2
      · exact hb b hb2
      · exact Nat.le_trans hw.size (h4 b hb2)
end Go.Proofs.YtifloafhpeeepaaGreat

namespace Go.Proofs.YtifloafhpeeepaaGreat
open Go.RowKit

set_option maxRecDepth 100000 in
set_option maxHeartbeats 4000000 in
theorem law_two (gs : List (List Int)) (Ag : Option Addr) (m d0 : Nat) (most : Int) (ops : List OpS) (Ao : Option Addr) (l co : Nat) (w : World) (hg : NumsAt w Ag m gs) (hm : m ≤ 1048576) (hgl : ∀ g ∈ gs, g.length ≤ 1048576) (_hx : -9223372036854775808 ≤ most ∧ most ≤ 9223372036854775807)
    (ho : LAt ROp 3 w Ao l ops) (_hlc : l ≤ co) (hl : l ≤ 1048576) (hor : ∀ o ∈ ops, o.row.length ≤ 1048576 ∧ smallR o.row) (howf : ∀ o ∈ ops, wfR o.row) :
    Calls Tryz.prog 7 #[.slice Ag m d0, .int .i64 most, .slice Ao l co] w fun e w' => e = .returned (.bool true) ∧ Ext w w' := by
  have hM := made_pi most d0 hg hm hgl
  have HO := hide ho; have HOR := hide hor; have HOW := hide howf
  clear hg hm hgl ho hor howf
  by_cases hz : goodS 3 most gs = 0
  · have HM := hide (hM.mono (R' := fun e w' => ∃ x d B P S, e = .returned (.tuple #[.pointer (some ⟨x, 0, none⟩), .pointer (some ⟨d, 0, none⟩), .bool true]) ∧ Ext w w' ∧ PI w' B P x S 1 d S ∧ ∀ b, B b ∨ P b → w.heap.size ≤ b) fun e w' h => by
      rcases h with ⟨h1, ⟨h2, -⟩ | ⟨-, x, d, B, P, S, h3, h4, h5⟩⟩
      · exact absurd hz h2
      · exact ⟨x, d, B, P, S, h3, h1, h4, h5⟩)
    clear hM hz
    go_enter Tryz.func7, Tryz.ntmps7
    go_wp2_with ((with_reducible refine HM.out.mono ?_); rintro en w1 ⟨x, d, B, P, S0, rfl, x1, hi, hb⟩; have HMT := hide (made_two x1 hi hb); clear x1 hi hb)
    refine HMT.out.mono ?_
    rintro en w2 ⟨y, e, rfl, h2⟩
    have T0 := hide h2
    clear h2 HM HMT
    go_wp2_with fail
    go_loopw [12, 44] (fun _ s44 w' => ∃ (i N M : Nat), i ≤ l ∧ s44 = .int .i64 i ∧ Hid (TwoI w w' x d y e N M (fun _ => False)) ∧ Hid (N ≤ 1 + 2 * i ∧ M ≤ 1 + 2 * i)) (fun _ s44 _ => l - (intOf s44).toNat)
    case atStart => exact ⟨0, 1, 1, by omega, rfl, T0, hide ⟨by omega, by omega⟩⟩
    case round =>
      clear T0
      obtain ⟨i, N, M, hil, rfl, hT, hN⟩ := hrel
      have hE := hide hT.out.out
      by_cases hi : i < l
      · obtain ⟨b, off, o, A9, c9, rfl, hoq, hbl, c0, c1, c2, hrow⟩ := HO.out.op hi
        have c0 := hE.out.cell c0; have c1 := hE.out.cell c1; have c2 := hE.out.cell c2
        have hom := List.mem_of_getElem? hoq
        have hor := HOR.out o hom; have how := HOW.out o hom
        obtain ⟨kind, kk, row⟩ := o
        dsimp only at c0 c1 c2 hrow hor how
        have hE1 := Ext.alloc wr (.cells #[.int .i64 kind, .int .i64 kk, .slice A9 row.length c9] 62)
        have OB := hide (Blk.new wr 62 #[.int .i64 kind, .int .i64 kk, .slice A9 row.length c9])
        have HARG := hide (show ArgR w A9 row.length row from ⟨hrow, hor.1, hor.2, how⟩)
        have HFAR := hide (row_lt hrow)
        have T1 := hide (hT.out.ext hE1)
        have HOO := hide (show wr.heap.size ≤ wr.heap.size ∧ wr.heap.size < (wr.alloc (.cells #[.int .i64 kind, .int .i64 kk, .slice A9 row.length c9] 62)).heap.size from ⟨Nat.le_refl _, OB.out.lt⟩)
        have hil2 : (i : Int) < (l : Int) := by omega
        have ht3 : Int.tmod (i : Int) 3 = ((i % 3 : Nat) : Int) := (Int.ofNat_tmod i 3).symm
        have ht2 : Int.tmod (i : Int) 2 = ((i % 2 : Nat) : Int) := (Int.ofNat_tmod i 2).symm
        clear hoq hom hor how hrow hE1 hT
        go_upto_region 10 with fail
        generalize wr.alloc (.cells #[.int .i64 kind, .int .i64 kk, .slice A9 row.length c9] 62) = w2 at *
        obtain ⟨ob, hob⟩ : ∃ ob, wr.heap.size = ob := ⟨_, rfl⟩
        rw [hob] at OB HOO T1 ⊢
        clear hob c0 c1 c2
        have q0 : w2.cell? ⟨ob, 0, none⟩ = some (.int .i64 kind) := OB.out.cell 0
        have q1 : w2.cell? ⟨ob, 1, none⟩ = some (.int .i64 kk) := OB.out.cell 1
        have q2 : w2.cell? ⟨ob, 2, none⟩ = some (.slice A9 row.length c9) := OB.out.cell 2
        have HCX := hide (T1.out.go (by have := hN.out; omega) (kind := kind) (kk := kk) c9 (HARG.out.ext T1.out.out) HFAR.out)
        have HN := hide (show N + 2 ≤ 8388608 ∧ M + 2 ≤ 8388608 by have := hN.out; omega)
        by_cases h3 : i % 3 = 0
        · have h3' : ((i % 3 : Nat) : Int) = 0 := by omega
          by_cases h2 : i % 2 = 0
          · have h2' : ((i % 2 : Nat) : Int) = 0 := by omega
            have HCY := hide (T1.out.swap.go HN.out.2 (kind := kind) (kk := kk) c9 (HARG.out.ext T1.out.out) HFAR.out)
            clear HCX h3 h2
            go_wp2_with fail
            refine HCY.out.mono ?_
            rintro en w4 ⟨rfl, h4, -⟩
            have T4 := hide h4.swap.far
            clear h4 HCY q0 q1 q2 T1
            go_wp2_with fail
            go_roundw
            case rel => exact ⟨i + 1, N, M + 2, by omega, by go_num, T4, hide (by have := hN.out; omega)⟩
            case measure => simp [intOf]; omega
          · have h2' : ¬ ((i % 2 : Nat) : Int) = 0 := by omega
            have T4 := hide T1.out.far
            clear HCX T1 q0 q1 q2 h3 h2
            go_wp2_with fail
            go_roundw
            case rel => exact ⟨i + 1, N, M, by omega, by go_num, T4, hide (by have := hN.out; omega)⟩
            case measure => simp [intOf]; omega
        · have h3' : ¬ ((i % 3 : Nat) : Int) = 0 := by omega
          by_cases h2 : i % 2 = 0
          · have h2' : ((i % 2 : Nat) : Int) = 0 := by omega
            clear h3 h2
            go_wp2_with ((with_reducible refine HCX.out.mono ?_); rintro en w4 ⟨rfl, h4, k4⟩; have OB4 := hide (k4 _ _ _ HOO.out OB.out); have T4 := hide h4; clear HCX h4 k4 T1 q0 q1 q2; have q0 : w4.cell? ⟨ob, 0, none⟩ = some (.int .i64 kind) := OB4.out.cell 0; have q1 : w4.cell? ⟨ob, 1, none⟩ = some (.int .i64 kk) := OB4.out.cell 1; have q2 : w4.cell? ⟨ob, 2, none⟩ = some (.slice A9 row.length c9) := OB4.out.cell 2)
            have HCY := hide (T4.out.swap.go HN.out.2 (kind := kind) (kk := kk) c9 (HARG.out.ext T4.out.out) HFAR.out)
            refine HCY.out.mono ?_
            rintro en w5 ⟨rfl, h5, -⟩
            have T5 := hide h5.swap.far
            clear h5 HCY q0 q1 q2 T4
            go_wp2_with fail
            go_roundw
            case rel => exact ⟨i + 1, N + 2, M + 2, by omega, by go_num, T5, hide (by have := hN.out; omega)⟩
            case measure => simp [intOf]; omega
          · have h2' : ¬ ((i % 2 : Nat) : Int) = 0 := by omega
            clear h3 h2
            go_wp2_with ((with_reducible refine HCX.out.mono ?_); rintro en w4 ⟨rfl, h4, k4⟩; have T4 := hide h4.far; clear HCX h4 k4 T1 q0 q1 q2)
            go_roundw
            case rel => exact ⟨i + 1, N + 2, M, by omega, by go_num, T4, hide (by have := hN.out; omega)⟩
            case measure => simp [intOf]; omega
      · obtain rfl : i = l := by omega
        have HSM := hide (hT.out.same (by have := hN.out; omega))
        clear hT hE
        go_wp2_with fail
        refine HSM.out.mono ?_
        rintro en w4 ⟨rfl, h4⟩
        have HSN := hide (h4.swap.same (by have := hN.out; omega))
        clear h4 HSM
        go_wp2_with fail
        refine HSN.out.mono ?_
        rintro en w5 ⟨rfl, h5⟩
        have X5 := hide h5.out
        clear h5 HSN
        go_wp2_with fail
        refine (awake_st _).mono ?_
        rintro en w6 ⟨rfl, x6⟩
        have X6 := hide (X5.out.trans x6)
        clear x6
        go_wp2_with fail
        go_ret
        exact ⟨rfl, X6.out⟩
  · have HM := hide (hM.mono (R' := fun e w' => e = .returned (.tuple #[.pointer none, .pointer none, .bool true]) ∧ Ext w w') fun e w' h => by
      rcases h with ⟨h1, ⟨-, h2⟩ | ⟨h2, -⟩⟩
      · exact ⟨h2, h1⟩
      · exact absurd h2 hz)
    clear hM hz
    go_enter Tryz.func7, Tryz.ntmps7
    go_wp2_with ((with_reducible refine HM.out.mono ?_); rintro e w1 ⟨rfl, x1⟩; have X1 := hide x1; clear x1)
    refine (awake_st _).mono ?_
    rintro e w4 ⟨rfl, x4⟩
    have X4 := hide (X1.out.trans x4)
    clear x4
    go_wp2_with fail
    go_ret
    exact ⟨rfl, X4.out⟩
end Go.Proofs.YtifloafhpeeepaaGreat
