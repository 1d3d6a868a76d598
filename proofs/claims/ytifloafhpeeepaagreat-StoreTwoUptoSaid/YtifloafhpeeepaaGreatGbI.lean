/-
  StorePlays: a store and the document's, side by side; one call of both that changes something.
  StorePlays: one call of both that changes something.
  StorePlays: the law's group.
-/
import Derived.Test.YtifloafhpeeepaaGreatGbH
import Derived.Test.YtifloafhpeeepaaGreatStuB
import Derived.Test.YtifloafhpeeepaaGreatMemK
import Derived.Deep.CutRange
import Derived.Deep.CutBlock
namespace Go.Proofs.YtifloafhpeeepaaGreat
open Go.RowKit

/-- a store in the blocks B, the document's in the blocks P -/
structure PI (w : World) (B P : Nat → Prop) (x : Nat) (S : SAbs) (N d : Nat) (T : SAbs) : Prop where
  s : StI w B x S N
  d : DP w P d T
  sep : ∀ b, B b → ¬ P b
  bl : ∀ b, B b → b < w.heap.size
  pl : ∀ b, P b → b < w.heap.size
  ob : ∀ o, T.old = some o → o.length ≤ 65536
section
variable {w w' : World} {B P : Nat → Prop} {x d N : Nat} {S T : SAbs}
theorem PI.ext (h : PI w B P x S N d T) (hw : Ext w w') : PI w' B P x S N d T :=
  ⟨h.s.ext hw, h.d.ext hw fun _ h => h, h.sep, fun b hb => Nat.lt_of_lt_of_le (h.bl b hb) hw.size, fun b hb => Nat.lt_of_lt_of_le (h.pl b hb) hw.size, h.ob⟩
theorem PI.chg {C : Nat → Prop} (h : PI w B P x S N d T) (hw : Chg C w w') (hB : ∀ b, B b → ¬ C b) (hP : ∀ b, P b → ¬ C b) : PI w' B P x S N d T :=
  ⟨h.s.chg hw hB, h.d.chg hw hP, h.sep, fun b hb => Nat.lt_of_lt_of_le (h.bl b hb) hw.size, fun b hb => Nat.lt_of_lt_of_le (h.pl b hb) hw.size, h.ob⟩
theorem PI.stepS {S' : SAbs} {N' : Nat} (h : PI w B P x S N d T) (hs : StS w B x S' N' w') : ∃ B', PI w' B' P x S' N' d T ∧ (∀ b, B' b → B b ∨ w.heap.size ≤ b) ∧ Chg B w w' := by
  obtain ⟨B', h1, h2, h3, h4⟩ := hs
  exact ⟨B', ⟨h1, h.d.chg h4 fun b hp hb => h.sep b hb hp, fun b hb hp => (h2 b hb).elim (fun h9 => h.sep b h9 hp) fun h9 => by have := h.pl b hp; omega, h3, fun b hb => Nat.lt_of_lt_of_le (h.pl b hb) h4.size, h.ob⟩, h2, h4⟩
theorem PI.stepD {T' : SAbs} (h : PI w B P x S N d T) (hs : DS w P w' d T') (ho : ∀ o, T'.old = some o → o.length ≤ 65536) : PI w' B (And' P w.heap.size w'.heap.size) x S N d T' ∧ Chg P w w' := by
  have hsz := hs.2.size
  exact ⟨⟨h.s.chg hs.2 h.sep, hs.1, fun b hb hp => hp.elim (h.sep b hb) fun h9 => by have := h.bl b hb; omega, fun b hb => Nat.lt_of_lt_of_le (h.bl b hb) hsz, fun b hb => hb.elim (fun h9 => Nat.lt_of_lt_of_le (h.pl b h9) hsz) fun h9 => h9.2, ho⟩, hs.2⟩
end
/-- what a call leaves of the two -/
def PS (w : World) (B P : Nat → Prop) (w' : World) (x : Nat) (S : SAbs) (N d : Nat) : Prop :=
  ∃ B' P', PI w' B' P' x S N d S ∧ (∀ b, B' b → B b ∨ w.heap.size ≤ b) ∧ (∀ b, P' b → P b ∨ w.heap.size ≤ b) ∧ Chg (fun b => B b ∨ P b) w w'
section
variable {w w1 w' w'' : World} {B P : Nat → Prop} {x d N N' : Nat} {S S' : SAbs}
theorem PS.of (h : PI w B P x S N d S) (hs : StS w B x S' N' w1) (hd : DS w1 P w' d S') (ho : ∀ o, S'.old = some o → o.length ≤ 65536) : PS w B P w' x S' N' d := by
  obtain ⟨B', h1, h2, h3⟩ := h.stepS hs
  obtain ⟨h4, h5⟩ := h1.stepD hd ho
  refine ⟨B', _, h4, h2, fun b hb => hb.imp id fun h9 => by have := h3.size; omega, ?_⟩
  exact (h3.mono fun g hg _ => .inl hg).trans h5 fun g hg _ => .inr hg
theorem PS.pre (h : PS w1 B P w' x S N d) (hw : Ext w w1) : PS w B P w' x S N d := by
  obtain ⟨B', P', h1, h2, h3, h4⟩ := h
  have hs := hw.size
  exact ⟨B', P', h1, fun b hb => (h2 b hb).imp id fun h => by omega, fun b hb => (h3 b hb).imp id fun h => by omega, (Chg.of hw).trans h4 fun _ hg _ => hg⟩
end
/-- a call's outcome on rows, plain -/
def opS (S : SAbs) (o : OpS) : SAbs :=
  if o.kind = 1 then (putS S o.row).1 else if o.kind = 2 then (dropS S o.row).1 else if o.kind = 8 then clearS S else if o.kind = 9 then (beginS S).1 else if o.kind = 10 then (commitS S).1 else if o.kind = 11 then (rollS S).1 else S
set_option maxRecDepth 100000 in
/-- the law's mark -/
theorem mark6 (n : Int) (h : 0 ≤ n ∧ n ≤ 100000000) (w : World) : Calls Tryz.prog 16 #[.int .i64 n] w fun e w' => e = .returned (.agg #[.int .i64 1, .int .i64 (n * 7919 + 1099511627776), .string ⟨#[]⟩]) ∧ Ext w w' := by
  obtain ⟨h0, h1⟩ := h
  have hw1 : IntKind.i64.wrap (n * 7919) = n * 7919 := IntWalk.i64_in _ (by omega)
  have hw2 : IntKind.i64.wrap (n * 7919 + 1099511627776) = n * 7919 + 1099511627776 := IntWalk.i64_in _ (by omega)
  go_enter Tryz.func16, Tryz.ntmps16
  go_wp2_with fail
  refine bodyPost_ret (results_cell_row rfl _ _ w.heap.size 43 _ (0, 0) _ rfl (heap_alloc_new _ _) Tryz.underlying43 rfl (by kernel_rfl)) rfl ?_
  exact ⟨rfl, Ext.alloc w _⟩
theorem putS_ob {S : SAbs} (r : List V) (h : ∀ o, S.old = some o → o.length ≤ 65536) : ∀ o, (putS S r).1.old = some o → o.length ≤ 65536 := fun o ho => h o (by rw [← putS_old S r]; exact ho)
theorem dropS_ob {S : SAbs} (r : List V) (h : ∀ o, S.old = some o → o.length ≤ 65536) : ∀ o, (dropS S r).1.old = some o → o.length ≤ 65536 := fun o ho => h o (by rw [← (dropS_same S r).2.2.2]; exact ho)
theorem beginS_ob {S : SAbs} (hs : SOk S) (h : ∀ o, S.old = some o → o.length ≤ 65536) : ∀ o, (beginS S).1.old = some o → o.length ≤ 65536 := fun o ho => by
  unfold beginS at ho
  split at ho
  · obtain rfl : S.rows = o := Option.some.inj ho
    have := hs.len; have := hs.most; omega
  · exact h o ho
theorem commitS_ob {S : SAbs} (h : ∀ o, S.old = some o → o.length ≤ 65536) : ∀ o, (commitS S).1.old = some o → o.length ≤ 65536 := fun o ho => by
  unfold commitS at ho
  split at ho
  · exact h o ho
  · cases ho
theorem rollS_ob {S : SAbs} (h : ∀ o, S.old = some o → o.length ≤ 65536) : ∀ o, (rollS S).1.old = some o → o.length ≤ 65536 := fun o ho => by
  unfold rollS at ho
  split at ho
  · exact h o ho
  · cases ho
end Go.Proofs.YtifloafhpeeepaaGreat

namespace Go.Proofs.YtifloafhpeeepaaGreat
open Go.RowKit

theorem StS.toChg {w w' : World} {B : Nat → Prop} {x N : Nat} {S : SAbs} (h : StS w B x S N w') : Chg B w w' := by
  obtain ⟨B', -, -, -, hc⟩ := h
  exact hc
theorem PS.more {w w' : World} {B P : Nat → Prop} {x d N M : Nat} {S : SAbs} (h : PS w B P w' x S N d) (hM : N ≤ M) : PS w B P w' x S M d := by
  obtain ⟨B', P', h1, h2⟩ := h
  exact ⟨B', P', ⟨h1.s.more hM, h1.d, h1.sep, h1.bl, h1.pl, h1.ob⟩, h2⟩
/-- a row handed in stays, empty or not -/
theorem ArgR.chg2 {w w' : World} {C : Nat → Prop} {A : Option Addr} {n : Nat} {r : List V} (h : ArgR w A n r) (hA : ∀ a, A = some a → r ≠ [] → ¬ C a.block) (hw : Chg C w w') : ArgR w' A n r := by
  by_cases hr : r = []
  · subst hr
    obtain rfl := h.at_.len
    exact ⟨⟨h.at_.1, h.at_.2.1, fun h0 => absurd h0 (by simp)⟩, h.len, h.small, h.wf⟩
  · exact h.chg (fun a ha => hA a ha hr) hw
/-- the rows away, by the law's own hand -/
theorem DP.clear {w : World} {P : Nat → Prop} {d : Nat} {S : SAbs} (h : DP w P d S) : w.frozen? ⟨d, 3, none⟩ = false ∧ (∃ v, w.cell? ⟨d, 3, none⟩ = some v) ∧ DS w P (w.setCell ⟨d, 3, none⟩ (.slice none 0 0)) d (clearS S) := by
  obtain ⟨AG, cG, AR, cR, Ao, no, co, hI⟩ := h
  refine ⟨hI.blk.frozen 3, ⟨_, hI.blk.cell 3⟩, ?_⟩
  refine DP.ds (w := w) ⟨AG, cG, none, 0, Ao, no, co, ?_, hI.inP, hI.grp.far hI.blk 3 _, ⟨rfl, [], OwnH.nil _ _ _ _, .nil⟩, fun o ho => ?_, hI.oldd⟩ ((Chg.refl P w).setCell (p := ⟨d, 3, none⟩) (.inl hI.inP) _)
  · have h9 := hI.blk.set_ 3 (.slice none 0 0)
    exact h9
  · have h1 := (hI.old o ho).far hI.blk hI.oldd 3 (.slice none 0 0)
    obtain ⟨k1, k2, cells, k3, k4, k5⟩ := h1
    exact ⟨k1, k2, cells, k3, k4, fun a b _ _ hb => by cases hb⟩
set_option maxRecDepth 100000 in
set_option maxHeartbeats 4000000 in
theorem changes_st {w : World} {B P : Nat → Prop} {x d N : Nat} {S : SAbs} (h : PI w B P x S N d S) (hN : N + 2 ≤ 8388608) {kind kk : Int} {row : List V} {A9 : Option Addr} {n9 : Nat} (c9 : Nat) (ha : ArgR w A9 n9 row) (hA : ∀ a, A9 = some a → row ≠ [] → ¬ B a.block ∧ ¬ P a.block) :
    Calls Tryz.prog 34 #[.pointer (some ⟨x, 0, none⟩), .pointer (some ⟨d, 0, none⟩), .agg #[.int .i64 kind, .int .i64 kk, .slice A9 n9 c9]] w fun e w' => e = .returned (.bool true) ∧ PS w B P w' x (opS S ⟨kind, kk, row⟩) (N + 2) d := by
  have hs := h.s.sok
  have E1 := hide (Ext.alloc w (.cells #[.int .i64 kind, .int .i64 kk, .slice A9 n9 c9] 62))
  have OB := hide (Blk.new w 62 #[.int .i64 kind, .int .i64 kk, .slice A9 n9 c9])
  have HA0 := hide (ha.ext E1.out)
  have HCP := hide (copy_any row A9 n9 c9 _ HA0.out.at_ (by have := ha.len; omega))
  have hlen := ha.at_.len
  have H := hide h; have HS := hide hs; have HAS := hide hA; have HNL := hide ha.len; have HAA := hide ha
  clear h hs ha hA
  obtain rfl := hlen
  go_enter Tryz.func34, Tryz.ntmps34
  go_upto_region 1 with fail
  generalize w.alloc (.cells #[.int .i64 kind, .int .i64 kk, .slice A9 row.length c9] 62) = w1 at *
  obtain ⟨ob, hob⟩ : ∃ ob, w.heap.size = ob := ⟨_, rfl⟩
  rw [hob] at OB ⊢
  have HOB := hide hob
  clear hob
  have o0 : w1.cell? ⟨ob, 0, none⟩ = some (.int .i64 kind) := OB.out.cell 0
  have o2 : w1.cell? ⟨ob, 2, none⟩ = some (.slice A9 row.length c9) := OB.out.cell 2
  go_upto_region 3 with ((with_reducible refine HCP.out.mono ?_); rintro e w2 ⟨A2, c2, rfl, ho2, hx2⟩; have O2 := hide ho2; have X2 := hide (E1.out.trans hx2); have X12 := hide hx2; clear ho2 hx2)
  have H2 := hide (H.out.ext X2.out)
  have OB2 := hide (OB.out.ext X12.out)
  have o0 : w2.cell? ⟨ob, 0, none⟩ = some (.int .i64 kind) := OB2.out.cell 0
  have o2 : w2.cell? ⟨ob, 2, none⟩ = some (.slice A9 row.length c9) := OB2.out.cell 2
  have HIN := hide (show ArgR w2 A2 row.length row from ⟨RowAt.own O2.out, HNL.out, HAA.out.small, HAA.out.wf⟩)
  have HI2 := hide (show ∀ a, A2 = some a → w1.heap.size ≤ a.block ∧ a.block < w2.heap.size from fun a ha => O2.out.lt a.block (by rw [ha]; rfl))
  have HARG2 := hide (HAA.out.ext X2.out)
  have HW := hide (show w.heap.size < w1.heap.size ∧ w1.heap.size ≤ w2.heap.size ∧ ob = w.heap.size from ⟨by have := OB.out.lt; have := HOB.out; omega, X12.out.size, HOB.out.symm⟩)
  clear HCP HA0
  first | go_upto_block 0 with fail | go_upto_block 1 with fail | go_upto_block 2 with fail | go_upto_block 3 with fail
  go_cut [8, 9, 10, 11] from 18 to 97 (fun s8 s9 s10 s11 wx => ∃ (b : Bool) (f : Int), s8 = .bool b ∧ s9 = .bool b ∧ s10 = .int .i64 f ∧ s11 = .int .i64 f ∧ Hid (PS w2 B P wx x (opS S ⟨kind, kk, row⟩) (N + 2) d))
  case first =>
    have HNB := hide (show ¬ B ob from fun hb => by have := H.out.bl _ hb; have := HW.out; omega)
    by_cases hk1 : kind = 1
    · skip
      subst hk1
      have HSC := hide (put_st H2.out.s (by omega) c2 HIN.out (fun a ha hb => by have h1 := HI2.out a ha; have h2 := H.out.bl _ hb; have := HW.out; omega))
      go_wp2_with ((with_reducible refine HSC.out.mono ?_); rintro e w3 ⟨rfl, hs3⟩; have S3 := hide hs3; have C3 := hide hs3.toChg; clear hs3; have o2 : w3.cell? ⟨ob, 2, none⟩ = some (.slice A9 row.length c9) := (C3.out.blk OB2.out HNB.out).cell 2)
      have D3 := hide (H2.out.d.chg C3.out fun b hp hb => H2.out.sep b hb hp)
      have HARG3 := hide (HARG2.out.chg2 (fun a ha hr => (HAS.out a ha hr).1) C3.out)
      have HDC := hide (dput D3.out HS.out c9 HARG3.out)
      refine HDC.out.mono ?_
      rintro e w4 ⟨rfl, hd4⟩
      have P4 := hide ((PS.of H2.out S3.out (show DS w3 P w4 d (putS S row).1 from hd4) (putS_ob row H2.out.ob)).more (show N + 1 ≤ N + 2 by omega))
      clear hd4 HDC HSC
      go_wp2_with fail
      go_meet
      exact ⟨_, _, rfl, rfl, rfl, rfl, P4⟩
    · have hk1' : (kind == 1) = false := by simpa using hk1
      by_cases hk2 : kind = 2
      · skip
        subst hk2
        have HSC := hide (drop_st H2.out.s (by omega) c2 HIN.out (fun a ha hb => by have h1 := HI2.out a ha; have h2 := H.out.bl _ hb; have := HW.out; omega))
        go_wp2_with ((with_reducible refine HSC.out.mono ?_); rintro e w3 ⟨rfl, hs3⟩; have S3 := hide hs3; have C3 := hide hs3.toChg; clear hs3; have o2 : w3.cell? ⟨ob, 2, none⟩ = some (.slice A9 row.length c9) := (C3.out.blk OB2.out HNB.out).cell 2)
        have D3 := hide (H2.out.d.chg C3.out fun b hp hb => H2.out.sep b hb hp)
        have HARG3 := hide (HARG2.out.chg2 (fun a ha hr => (HAS.out a ha hr).1) C3.out)
        have HDC := hide (ddrop D3.out HS.out c9 HARG3.out)
        refine HDC.out.mono ?_
        rintro e w4 ⟨rfl, hd4⟩
        have P4 := hide ((PS.of H2.out S3.out (show DS w3 P w4 d (dropS S row).1 from hd4) (dropS_ob row H2.out.ob)).more (show N + 1 ≤ N + 2 by omega))
        clear hd4 HDC HSC
        go_wp2_with fail
        go_meet
        exact ⟨_, _, rfl, rfl, rfl, rfl, P4⟩
      · have hk2' : (kind == 2) = false := by simpa using hk2
        by_cases hk8 : kind = 8
        · subst hk8
          have HSC := hide (clear_st H2.out.s hN)
          go_upto_region 12 with ((with_reducible refine HSC.out.mono ?_); rintro e w3 ⟨rfl, hs3⟩; have S3 := hide hs3; have C3 := hide hs3.toChg; clear hs3)
          have D3 := hide (H2.out.d.chg C3.out fun b hp hb => H2.out.sep b hb hp)
          obtain ⟨f3, ⟨v3, hv3⟩, hd4⟩ := D3.out.clear
          have P4 := hide (PS.of H2.out S3.out hd4 (fun o ho => H2.out.ob o ho))
          clear hd4 HSC
          go_wp2_with fail
          go_meet
          exact ⟨false, 0, rfl, rfl, rfl, rfl, P4⟩
        · have hk8' : (kind == 8) = false := by simpa using hk8
          by_cases hk9 : kind = 9
          · skip
            subst hk9
            have HSC := hide (begin_st H2.out.s)
            go_wp2_with ((with_reducible refine HSC.out.mono ?_); rintro e w3 ⟨rfl, hs3⟩; have S3 := hide hs3; have C3 := hide hs3.toChg; clear hs3; have o2 : w3.cell? ⟨ob, 2, none⟩ = some (.slice A9 row.length c9) := (C3.out.blk OB2.out HNB.out).cell 2)
            have D3 := hide (H2.out.d.chg C3.out fun b hp hb => H2.out.sep b hb hp)
            have HARG3 := hide (HARG2.out.chg2 (fun a ha hr => (HAS.out a ha hr).1) C3.out)
            have HDC := hide (dbegin D3.out)
            refine HDC.out.mono ?_
            rintro e w4 ⟨rfl, hd4⟩
            have P4 := hide ((PS.of H2.out S3.out (show DS w3 P w4 d (beginS S).1 from hd4) (beginS_ob HS.out H2.out.ob)).more (show N + 1 ≤ N + 2 by omega))
            clear hd4 HDC HSC
            go_wp2_with fail
            go_meet
            exact ⟨false, _, rfl, rfl, rfl, rfl, P4⟩
          · have hk9' : (kind == 9) = false := by simpa using hk9
            by_cases hk10 : kind = 10
            · skip
              subst hk10
              have HSC := hide (commit_st H2.out.s)
              go_wp2_with ((with_reducible refine HSC.out.mono ?_); rintro e w3 ⟨rfl, hs3⟩; have S3 := hide hs3; have C3 := hide hs3.toChg; clear hs3; have o2 : w3.cell? ⟨ob, 2, none⟩ = some (.slice A9 row.length c9) := (C3.out.blk OB2.out HNB.out).cell 2)
              have D3 := hide (H2.out.d.chg C3.out fun b hp hb => H2.out.sep b hb hp)
              have HARG3 := hide (HARG2.out.chg2 (fun a ha hr => (HAS.out a ha hr).1) C3.out)
              have HDC := hide (dcommit D3.out)
              refine HDC.out.mono ?_
              rintro e w4 ⟨rfl, hd4⟩
              have P4 := hide ((PS.of H2.out S3.out (show DS w3 P w4 d (commitS S).1 from hd4) (commitS_ob H2.out.ob)).more (show N + 1 ≤ N + 2 by omega))
              clear hd4 HDC HSC
              go_wp2_with fail
              go_meet
              exact ⟨false, _, rfl, rfl, rfl, rfl, P4⟩
            · have hk10' : (kind == 10) = false := by simpa using hk10
              by_cases hk11 : kind = 11
              · skip
                subst hk11
                have HSC := hide (rollback_st H2.out.s (by omega))
                go_wp2_with ((with_reducible refine HSC.out.mono ?_); rintro e w3 ⟨rfl, hs3⟩; have S3 := hide hs3; have C3 := hide hs3.toChg; clear hs3; have o2 : w3.cell? ⟨ob, 2, none⟩ = some (.slice A9 row.length c9) := (C3.out.blk OB2.out HNB.out).cell 2)
                have D3 := hide (H2.out.d.chg C3.out fun b hp hb => H2.out.sep b hb hp)
                have HARG3 := hide (HARG2.out.chg2 (fun a ha hr => (HAS.out a ha hr).1) C3.out)
                have HDC := hide (droll D3.out H2.out.ob)
                refine HDC.out.mono ?_
                rintro e w4 ⟨rfl, hd4⟩
                have P4 := hide ((PS.of H2.out S3.out (show DS w3 P w4 d (rollS S).1 from hd4) (rollS_ob H2.out.ob)).more (show N + 1 ≤ N + 2 by omega))
                clear hd4 HDC HSC
                go_wp2_with fail
                go_meet
                exact ⟨false, _, rfl, rfl, rfl, rfl, P4⟩
              · have hk11' : (kind == 11) = false := by simpa using hk11
                have P4 := hide (show PS w2 B P w2 x (opS S ⟨kind, kk, row⟩) (N + 2) d from by
                  have e : opS S ⟨kind, kk, row⟩ = S := by
                    unfold opS
                    rw [if_neg hk1, if_neg hk2, if_neg hk8, if_neg hk9, if_neg hk10, if_neg hk11]
                  rw [e]
                  exact (show PS w2 B P w2 x S N d from ⟨B, P, H2.out, fun _ h => .inl h, fun _ h => .inl h, Chg.refl _ _⟩).more (by omega))
                go_wp2_with fail
                go_meet
                exact ⟨false, 0, rfl, rfl, rfl, rfl, P4⟩
  case rest =>
    obtain ⟨b, f, rfl, rfl, rfl, rfl, hPS⟩ := hcut
    have hCC := hide (show Chg (fun b => B b ∨ P b) w2 wc from by obtain ⟨B', P', -, -, -, hc⟩ := hPS.out; exact hc)
    have hout := hide (show ∀ g, w.heap.size ≤ g → ¬ (B g ∨ P g) from fun g hg hbp => hbp.elim (fun h => by have := H.out.bl _ h; omega) fun h => by have := H.out.pl _ h; omega)
    have OBc := hide (hCC.out.blk OB2.out (hout.out ob (by have := HW.out; omega)))
    have HINc := hide (HIN.out.chg (fun a ha => hout.out _ (by have h1 := HI2.out a ha; have := HW.out; omega)) hCC.out)
    have Oc := hide (hCC.out.own O2.out fun g hg => hout.out g (by have h1 := O2.out.lt g hg; have := HW.out; omega))
    have HARGc := hide (HARG2.out.chg2 (fun a ha hr hbp => hbp.elim (HAS.out a ha hr).1 (HAS.out a ha hr).2) hCC.out)
    have o2 : wc.cell? ⟨ob, 2, none⟩ = some (.slice A9 row.length c9) := OBc.out.cell 2
    have HSM := hide (same_any row row A2 A9 row.length row.length c2 c9 wc HINc.out.at_ HARGc.out.at_ (by have := HNL.out; omega))
    rw [sameR_iff.2 rfl] at HSM
    obtain ⟨rl, hrl⟩ : ∃ rl, row.length = rl := ⟨_, rfl⟩
    have hrlb : rl ≤ 1048576 := by rw [← hrl]; exact HNL.out
    rw [hrl] at HSM Oc o2 ⊢
    clear hrl HINc HARGc
    go_wp2_with fail
    refine HSM.out.mono ?_
    rintro e w5 ⟨rfl, x5⟩
    have X5 := hide x5
    have O5 := hide (show ∃ xs, w5.ownsRow w1.heap.size 43 3 (.slice A2 rl c2) rl xs from ⟨_, mine_ext Oc.out x5⟩)
    clear x5 HSM o2
    go_wp2_with fail
    go_loopw [12, 80] (fun _ s80 w' => ∃ i : Nat, i ≤ rl ∧ s80 = .int .i64 i ∧ Hid (∃ xs, w'.ownsRow w1.heap.size 43 3 (.slice A2 rl c2) rl xs) ∧ Hid (Chg (fun b => w1.heap.size ≤ b ∧ b < w2.heap.size) w5 w')) (fun _ s80 _ => rl - (intOf s80).toNat)
    case atStart => exact ⟨0, by omega, rfl, O5, Chg.refl _ _⟩
    case round =>
      obtain ⟨i, hil, rfl, hO, hC⟩ := hrel
      by_cases hi : i < rl
      · have HMK := hide (mark6 (i : Int) (by omega) wr)
        have hi2 : (i : Int) < (rl : Int) := by omega
        go_upto_region 25 with (first
          | ((with_reducible refine HMK.out.mono ?_); rintro e w6 ⟨rfl, x6⟩; have X6 := hide x6; obtain ⟨xs, ho⟩ := hO.out; have O6 := hide (mine_ext ho x6); clear x6 ho; obtain ⟨g, u0, u1, u2, rfl, hg1, hg2, q0, q1, q2, f0, f1, f2⟩ := own_cell3 O6.out hi; have HG := hide (And.intro hg1 hg2); clear hg1 hg2))
        obtain ⟨xs3, ho3⟩ := own_set3 (g := g) O6.out (i * 3) (i * 3 + 1) (i * 3 + 2) (.int .i64 1) (.int .i64 ((i : Int) * 7919 + 1099511627776)) (.string ⟨#[]⟩)
        have HO3 := hide (show ∃ xs, (((w6.setCell ⟨g, i * 3, none⟩ (.int .i64 1)).setCell ⟨g, i * 3 + 1, none⟩ (.int .i64 ((i : Int) * 7919 + 1099511627776))).setCell ⟨g, i * 3 + 2, none⟩ (.string ⟨#[]⟩)).ownsRow w1.heap.size 43 3 (.slice (some ⟨g, 0, none⟩) rl c2) rl xs from ⟨xs3, ho3⟩)
        have hgi := HI2.out ⟨g, 0, none⟩ rfl
        have HC3 := hide ((((hC.out.trans' (Chg.of X6.out)).setCell (p := ⟨g, i * 3, none⟩) (.inl hgi) (.int .i64 1)).setCell (p := ⟨g, i * 3 + 1, none⟩) (.inl hgi) (.int .i64 ((i : Int) * 7919 + 1099511627776))).setCell (p := ⟨g, i * 3 + 2, none⟩) (.inl hgi) (.string ⟨#[]⟩))
        clear ho3 hgi q0 q1 q2 f0 f1 f2
        go_wp2_with fail
        go_roundw
        case rel => exact ⟨i + 1, by omega, by go_num, HO3, HC3⟩
        case measure => simp [intOf]; omega
      · obtain rfl : i = rl := by omega
        have HFIN := hide (show PS w B P wr x (opS S ⟨kind, kk, row⟩) (N + 2) d from by
          obtain ⟨B', P', hI, hb, hp, hc⟩ := hPS.out
          have hw := HW.out
          have hsz := hC.out.size
          have hn : ∀ g, (w1.heap.size ≤ g ∧ g < w2.heap.size) → ¬ (B' g ∨ P' g) := fun g hg hbp => by
            rcases hbp with h | h
            · rcases hb g h with h9 | h9
              · have := H.out.bl g h9; omega
              · omega
            · rcases hp g h with h9 | h9
              · have := H.out.pl g h9; omega
              · omega
          refine ⟨B', P', (hI.ext X5.out).chg hC.out (fun b hb hq => hn b hq (.inl hb)) (fun b hb hq => hn b hq (.inr hb)), fun b hb2 => (hb b hb2).imp id fun h => by omega, fun b hb2 => (hp b hb2).imp id fun h => by omega, ?_⟩
          have hc2 := hc.size
          have hc5 := X5.out.size
          exact (((Chg.of X2.out (B := fun b => B b ∨ P b)).trans hc fun _ h _ => h).trans' (Chg.of X5.out)).trans hC.out fun g hg hl => by omega)
        clear hC hO
        have hbb : (b == b) = true := beq_self_eq_true b
        have hff : (f == f) = true := beq_self_eq_true f
        go_wp2_with fail
        go_ret
        exact ⟨rfl, HFIN.out⟩
end Go.Proofs.YtifloafhpeeepaaGreat

namespace Go.Proofs.YtifloafhpeeepaaGreat
open Go.RowKit

section
variable {w w1 w' : World} {B P : Nat → Prop} {x d N N' M : Nat} {S T S' : SAbs}
theorem PI.stepSM (h : PI w B P x S N d T) (hs : StSM w B x S' N' w' M) : ∃ B', PI w' B' P x S' N' d T ∧ (∀ b, B' b → B b ∨ w.heap.size ≤ b) ∧ Chg B w w' ∧ (∀ b, B' b → b < M) ∧ w.heap.size ≤ M ∧ M ≤ w'.heap.size := by
  obtain ⟨B', h1, h2, h3, h4, h5, h6⟩ := hs
  exact ⟨B', ⟨h1, h.d.chg h4 fun b hp hb => h.sep b hb hp, fun b hb hp => (h2 b hb).elim (fun h9 => h.sep b h9 hp) fun h9 => by have := h.pl b hp; omega, fun b hb => Nat.lt_of_lt_of_le (h3 b hb) h6, fun b hb => Nat.lt_of_lt_of_le (h.pl b hb) h4.size, h.ob⟩, h2, h4, h3, h5, h6⟩
theorem PS.refl (h : PI w B P x S N d S) : PS w B P w x S N d := ⟨B, P, h, fun _ h => .inl h, fun _ h => .inl h, Chg.refl _ _⟩
/-- a question to the store, behind other things -/
theorem PS.ask {B1 B2 : Nat → Prop} (hb1 : ∀ b, B1 b → B b ∨ w.heap.size ≤ b) (hc1 : Chg B w w1) (h : PI w' B2 P x S N d S) (hb2 : ∀ b, B2 b → B1 b ∨ w1.heap.size ≤ b) (hc2 : Chg B1 w1 w') : PS w B P w' x S N d :=
  ⟨B2, P, h, fun b hb => (hb2 b hb).elim (hb1 b) fun h => .inr (Nat.le_trans hc1.size h), fun _ h => .inl h, (hc1.mono fun g hg _ => .inl hg).trans hc2 fun g hg hl => .inl ((hb1 g hg).resolve_right (by omega))⟩
theorem PS.ext (h : PS w B P w1 x S N d) (hw : Ext w1 w') : PS w B P w' x S N d := by
  obtain ⟨B', P', h1, h2, h3, h4⟩ := h
  exact ⟨B', P', h1.ext hw, h2, h3, h4.trans' (Chg.of hw)⟩
end
/-- a row handed in stays, while the two turn -/
theorem ArgR.two {w w' : World} {B P : Nat → Prop} {A : Option Addr} {n : Nat} {r : List V} (h : ArgR w A n r) (hA : ∀ a, A = some a → r ≠ [] → ¬ B a.block ∧ ¬ P a.block) (hc : Chg B w w') : ArgR w' A n r := h.chg2 (fun a ha hr => (hA a ha hr).1) hc
/-- a copy of a row handed in -/
theorem copy_st {r : List V} {A : Option Addr} {n c : Nat} {w : World} (ha : ArgR w A n r) :
    Calls Tryz.prog 10 #[.slice A n c] w fun e w' => ∃ A' c', e = .returned (.slice A' n c') ∧ ArgR w' A' n r ∧ Ext w w' := by
  refine (copy_argP (c := c) ha).mono ?_
  rintro e w' ⟨A', c', rfl, h1, -, h2⟩
  exact ⟨A', c', rfl, h1, h2⟩
/-- what the store is behind some questions: B now -/
structure AskI (w : World) (B P : Nat → Prop) (x : Nat) (S : SAbs) (N d : Nat) (w' : World) (B' : Nat → Prop) : Prop where
  pi : PI w' B' P x S N d S
  sub : ∀ b, B' b → B b ∨ w.heap.size ≤ b
  chg : Chg B w w'
section
variable {w w1 w' : World} {B P B1 B2 : Nat → Prop} {x d N N' M : Nat} {S : SAbs}
theorem AskI.start (h : PI w B P x S N d S) : AskI w B P x S N d w B := ⟨h, fun _ h => .inl h, Chg.refl _ _⟩
theorem AskI.ext (h : AskI w B P x S N d w1 B1) (hw : Ext w1 w') : AskI w B P x S N d w' B1 := ⟨h.pi.ext hw, h.sub, h.chg.trans' (Chg.of hw)⟩
theorem AskI.on (h : AskI w B P x S N d w1 B1) (h2 : PI w' B2 P x S N' d S) (hb2 : ∀ b, B2 b → B1 b ∨ w1.heap.size ≤ b) (hc2 : Chg B1 w1 w') : AskI w B P x S N' d w' B2 :=
  ⟨h2, fun b hb => (hb2 b hb).elim (h.sub b) fun h9 => .inr (Nat.le_trans h.chg.size h9), h.chg.trans hc2 fun g hg hl => (h.sub g hg).resolve_right (by omega)⟩
theorem AskI.sts (h : AskI w B P x S N d w1 B1) (hs : StS w1 B1 x S N' w') : ∃ B2, AskI w B P x S N' d w' B2 ∧ Chg B1 w1 w' ∧ ∀ b, B2 b → B1 b ∨ w1.heap.size ≤ b := by
  obtain ⟨B2, h1, h2, h3⟩ := h.pi.stepS hs
  exact ⟨B2, h.on h1 h2 h3, h3, h2⟩
theorem AskI.sm (h : AskI w B P x S N d w1 B1) (hs : StSM w1 B1 x S N' w' M) : ∃ B2, AskI w B P x S N' d w' B2 ∧ Chg B1 w1 w' ∧ (∀ b, B2 b → B1 b ∨ w1.heap.size ≤ b) ∧ (∀ b, B2 b → b < M) ∧ w1.heap.size ≤ M ∧ M ≤ w'.heap.size := by
  obtain ⟨B2, h1, h2, h3, h4, h5, h6⟩ := h.pi.stepSM hs
  exact ⟨B2, h.on h1 h2 h3, h3, h2, h4, h5, h6⟩
theorem AskI.ps (h : AskI w B P x S N d w' B1) : PS w B P w' x S N d := ⟨B1, P, h.pi, h.sub, fun _ h => .inl h, h.chg.mono fun _ hg _ => .inl hg⟩
theorem AskI.arg (h : AskI w B P x S N d w' B1) {A : Option Addr} {n : Nat} {r : List V} (ha : ArgR w A n r) (hA : ∀ a, A = some a → r ≠ [] → ¬ B a.block ∧ ¬ P a.block) : ArgR w' A n r := ha.two hA h.chg
end
/-- things told stand aside of the store -/
theorem Told.aside {w w' : World} {Q B1 : Nat → Prop} {A : Option Addr} {n c : Nat} {rows : List (List V)} (h : Told w Q A n c rows) (hQ : ∀ b, B1 b → ¬ Q b) (hc : Chg B1 w w') : Told w' Q A n c rows := h.keep (hc.mono fun g hg _ => hQ g hg) fun _ h => h
set_option maxRecDepth 100000 in
set_option maxHeartbeats 4000000 in
theorem group_law {w : World} {B P : Nat → Prop} {x d N : Nat} {S : SAbs} (h : PI w B P x S N d S) (hN : N + 3 ≤ 8388608) {k : Nat} {g : List Nat} (hg : S.gs[k]? = some g) {key : List V} {A : Option Addr} {n : Nat} (c : Nat) (ha : ArgR w A n key) (hA : ∀ a, A = some a → key ≠ [] → ¬ B a.block ∧ ¬ P a.block) :
    Calls Tryz.prog 67 #[.pointer (some ⟨x, 0, none⟩), .pointer (some ⟨d, 0, none⟩), .int .i64 k, .slice A n c] w fun e w' => e = .returned (.bool true) ∧ PS w B P w' x S (N + 3) d := by
  have hs := h.s.sok
  have hkS : k < S.gs.length := (List.getElem?_eq_some_iff.1 hg).1
  have HAI := hide (AskI.start h)
  have HS := hide hs; have HA := hide ha; have HAS := hide hA; have HG := hide hg
  have HCP := hide (copy_st (c := c) ha)
  obtain ⟨F, hF⟩ : ∃ F, grpS S k key = F := ⟨_, rfl⟩
  have HFE := hide hF
  have HFF := hide (show F.length ≤ 65536 ∧ ∀ s ∈ F, s.length ≤ 30 from by
    rw [← hF, grpS_at hg]
    have h1 := List.length_filter_le (fun q => sameR (keyR g q) key) S.rows
    have h2 := hs.len; have h3 := hs.most
    exact ⟨by omega, fun s hs2 => hs.small s (List.mem_filter.1 hs2).1⟩)
  clear h hs ha hA hg hF
  obtain ⟨fl, hfl⟩ : ∃ fl, F.length = fl := ⟨_, rfl⟩
  have HFL := hide hfl
  have hfl6 : fl ≤ 65536 := by rw [← hfl]; exact HFF.out.1
  clear hfl
  go_enter Tryz.func67, Tryz.ntmps67
  go_wp2_with ((with_reducible refine HCP.out.mono ?_); rintro e w1 ⟨A1, c1, rfl, h1, x1⟩; have HA1 := hide h1; have X1 := hide x1; clear h1 x1)
  have HAI1 := hide (HAI.out.ext X1.out)
  have HGR := hide (group_st HAI1.out.pi.s (by omega) hkS c1 HA1.out)
  rw [HFE.out, HFL.out] at HGR
  clear HCP
  refine HGR.out.mono ?_
  rintro e w2 ⟨A2, c2, rfl, M2, hm2, hs2⟩
  obtain ⟨B2, a2, hc2, hb2, hM2, hM3, hM4⟩ := HAI1.out.sm hs2
  have HAI2 := hide a2
  have T2 := hide (show Told w2 (fun b => M2 ≤ b ∧ b < w2.heap.size) A2 fl c2 F from hm2.told fun b h1 h2 => ⟨h1, h2⟩)
  have HB2 := hide (show ∀ b, B2 b → ¬ (M2 ≤ b ∧ b < w2.heap.size) from fun b hb h => by have := hM2 b hb; omega)
  have HCP2 := hide (copy_st (c := c) (a2.arg HA.out HAS.out))
  clear hm2 hs2 a2 hc2 hb2 hM2 hM3 hM4 HGR HAI1 HA1
  go_wp2_with ((with_reducible refine HCP2.out.mono ?_); rintro e w3 ⟨A3, c3, rfl, h3, x3⟩; have HA3 := hide h3; have X3 := hide x3; clear h3 x3)
  have HAI3 := hide (HAI2.out.ext X3.out)
  have T3 := hide (T2.out.ext X3.out fun _ h => h)
  have HSI := hide (size_st HAI3.out.pi.s (by omega) hkS c3 HA3.out)
  rw [HFE.out, HFL.out] at HSI
  refine HSI.out.mono ?_
  rintro e w4 ⟨rfl, hs4⟩
  obtain ⟨B4, a4, hc4, hb4⟩ := HAI3.out.sts hs4
  have HAI4 := hide a4
  have T4 := hide (T3.out.aside HB2.out hc4)
  have HB4 := hide (show ∀ b, B4 b → ¬ (M2 ≤ b ∧ b < w2.heap.size) from fun b hb h => (hb4 b hb).elim (fun h9 => HB2.out b h9 h) fun h9 => by have := X3.out.size; omega)
  have HCP4 := hide (copy_st (c := c) (a4.arg HA.out HAS.out))
  have HW24 := hide (Nat.le_trans X3.out.size hc4.size)
  clear hs4 a4 hc4 hb4 HSI HAI3 HA3 T3 T2 HB2 HCP2 HAI2
  go_wp2_with ((with_reducible refine HCP4.out.mono ?_); rintro e w5 ⟨A5, c5, rfl, h5, x5⟩; have HA5 := hide h5; have X5 := hide x5; clear h5 x5)
  have HAI5 := hide (HAI4.out.ext X5.out)
  have T5 := hide (T4.out.ext X5.out fun _ h => h)
  have HFI := hide (first_st HAI5.out.pi.s (by omega) hkS c5 HA5.out)
  rw [HFE.out] at HFI
  have HARGx := hide (fun (w6 : World) (B6 : Nat → Prop) (N6 : Nat) (a6 : AskI w B P x S N6 d w6 B6) => show Calls Tryz.prog 99 #[.pointer (some ⟨d, 0, none⟩), .int .i64 k, .slice A n c] w6 (fun e w' => ∃ A' c', e = .returned (.tuple #[.slice A' fl c', .int .i64 0]) ∧ LAt RRow 1 w' A' fl F ∧ Ext w6 w') from by
    have := dgroup a6.pi.d HS.out HG.out c (a6.arg HA.out HAS.out)
    rw [HFE.out, HFL.out] at this
    exact this)
  have HSA := hide (fun (w7 : World) (Ah : Option Addr) (ch : Nat) (ht : Told w7 (fun b => M2 ≤ b ∧ b < w2.heap.size) A2 fl c2 F) (hh : LAt RRow 1 w7 Ah fl F) => show Calls Tryz.prog 14 #[.slice A2 fl c2, .slice Ah fl ch] w7 (fun e w' => e = .returned (.bool true) ∧ Ext w7 w') from by
    have := same_all F F A2 Ah fl fl c2 ch w7 ht.lat hh (by omega) (fun s hs => by have := HFF.out.2 s hs; omega)
    rw [sameRs_iff.2 rfl] at this
    exact this)
  cases F with
  | nil =>
    obtain rfl : fl = 0 := HFL.out.symm
    rw [show ([] : List (List V)).head? = none from rfl] at HFI
    refine HFI.out.mono ?_
    rintro e w6 ⟨rfl, hs6⟩
    obtain ⟨B6, a6, hc6, hb6⟩ := HAI5.out.sts hs6
    have HAI6 := hide a6
    have T6 := hide (T5.out.aside HB4.out hc6)
    have HDG := hide (HARGx.out w6 B6 _ a6)
    clear hs6 a6 hc6 hb6 HFI HARGx
    go_wp2_with fail
    refine HDG.out.mono ?_
    rintro e w7 ⟨Ah, ch, rfl, hl7, x7⟩
    have HSM := hide (HSA.out w7 Ah ch (T6.out.ext x7 fun _ h => h) hl7)
    have HAI7 := hide (HAI6.out.ext x7)
    clear hl7 x7 HDG
    go_wp2_with fail
    refine HSM.out.mono ?_
    rintro e w8 ⟨rfl, x8⟩
    have HAI8 := hide (HAI7.out.ext x8)
    clear x8 HSM
    go_wp2_with fail
    go_ret
    exact ⟨rfl, HAI8.out.ps⟩
  | cons q F' =>
    obtain ⟨fm, rfl⟩ : ∃ fm, fl = fm + 1 := ⟨F'.length, HFL.out.symm⟩
    rw [show (q :: F').head? = some q from rfl] at HFI
    refine HFI.out.mono ?_
    rintro e w6 ⟨A6, c6, M6, rfl, ho6, hs6⟩
    obtain ⟨B6, a6, hc6, hb6, hM6, hM7, hM8⟩ := HAI5.out.sm hs6
    have HAI6 := hide a6
    have T6 := hide (T5.out.aside HB4.out hc6)
    have HDG := hide (HARGx.out w6 B6 _ a6)
    have R6 := hide (show RowAt w6 A6 q.length q from RowAt.own ho6)
    have hql := HFF.out.2 q (by simp)
    clear hs6 a6 hc6 hb6 hM6 hM7 hM8 HFI HARGx ho6
    go_wp2_with fail
    refine HDG.out.mono ?_
    rintro e w7 ⟨Ah, ch, rfl, hl7, x7⟩
    have HSM := hide (HSA.out w7 Ah ch (T6.out.ext x7 fun _ h => h) hl7)
    have HAI7 := hide (HAI6.out.ext x7)
    have L7 := hide hl7; have R7 := hide (R6.out.ext x7)
    clear hl7 x7 HDG
    have hf1 : (0 : Int) < ((fm + 1 : Nat) : Int) := by omega
    go_wp2_with fail
    refine HSM.out.mono ?_
    rintro e w8 ⟨rfl, x8⟩
    have HAI8 := hide (HAI7.out.ext x8)
    have R8 := hide (R7.out.ext x8)
    obtain ⟨bh, off, q', A9, c9, rfl, hq', hc9, hr9⟩ := (L7.out.ext RRow.stab x8).rowS (i := 0) (by omega)
    obtain rfl : q = q' := Option.some.inj hq'
    have hc9' : w8.cell? ⟨bh, off, none⟩ = some (.slice A9 q.length c9) := hc9
    have HSQ := hide (same_any q q A6 A9 q.length q.length c6 c9 w8 R8.out hr9 (by omega))
    rw [sameR_iff.2 rfl] at HSQ
    clear x8 HSM hq' hc9 hr9 hql
    go_wp2_with fail
    refine HSQ.out.mono ?_
    rintro e w9 ⟨rfl, x9⟩
    have HAI9 := hide (HAI8.out.ext x9)
    clear x9 HSQ
    go_wp2_with fail
    go_ret
    exact ⟨rfl, HAI9.out.ps⟩
/-- a group that is none -/
theorem group_law_bad {w : World} {B P : Nat → Prop} {x d N : Nat} {S : SAbs} (h : PI w B P x S N d S) {k : Int} (hk : k < 0 ∨ (S.gs.length : Int) ≤ k) {key : List V} {A : Option Addr} {n : Nat} (c : Nat) (ha : ArgR w A n key) :
    Calls Tryz.prog 67 #[.pointer (some ⟨x, 0, none⟩), .pointer (some ⟨d, 0, none⟩), .int .i64 k, .slice A n c] w fun e w' => e = .returned (.bool true) ∧ PS w B P w' x S N d := by
  have HPI := hide h; have HA := hide ha
  have HCP := hide (fun (w1 : World) (x1 : Ext w w1) => copy_st (c := c) (ha.ext x1))
  have HG := hide (fun (w1 : World) (x1 : Ext w w1) (A' : Option Addr) (c' : Nat) => group_bad (h.s.ext x1) hk A' n c')
  have HSI := hide (fun (w1 : World) (x1 : Ext w w1) (A' : Option Addr) (c' : Nat) => size_bad (h.s.ext x1) hk A' n c')
  have HFI := hide (fun (w1 : World) (x1 : Ext w w1) (A' : Option Addr) (c' : Nat) => first_bad (h.s.ext x1) hk A' n c')
  have HDG := hide (fun (w1 : World) (x1 : Ext w w1) => dgroup_bad (h.d.ext x1 fun _ h => h) hk A n c)
  have HSA := hide (fun (w7 : World) => show Calls Tryz.prog 14 #[.slice none 0 0, .slice none 0 0] w7 (fun e w' => e = .returned (.bool true) ∧ Ext w7 w') from same_all [] [] none none 0 0 0 0 w7 (LAt.nil _) (LAt.nil _) (by omega) (fun s hs => by cases hs))
  clear h ha hk
  go_enter Tryz.func67, Tryz.ntmps67
  go_wp2_with ((with_reducible refine (HCP.out w (Ext.refl w)).mono ?_); rintro e w1 ⟨A1, c1, rfl, -, x1⟩; have X1 := hide x1; clear x1)
  refine (HG.out w1 X1.out A1 c1).mono ?_
  rintro e w2 ⟨rfl, rfl⟩
  go_wp2_with fail
  refine (HCP.out _ X1.out).mono ?_
  rintro e w3 ⟨A3, c3, rfl, -, x3⟩
  have X3 := hide (X1.out.trans x3)
  clear x3
  go_wp2_with fail
  refine (HSI.out w3 X3.out A3 c3).mono ?_
  rintro e w4 ⟨rfl, rfl⟩
  go_wp2_with fail
  refine (HCP.out _ X3.out).mono ?_
  rintro e w5 ⟨A5, c5, rfl, -, x5⟩
  have X5 := hide (X3.out.trans x5)
  clear x5
  go_wp2_with fail
  refine (HFI.out w5 X5.out A5 c5).mono ?_
  rintro e w6 ⟨rfl, rfl⟩
  go_wp2_with fail
  refine (HDG.out _ X5.out).mono ?_
  rintro e w7 ⟨rfl, rfl⟩
  go_wp2_with fail
  refine (HSA.out _).mono ?_
  rintro e w8 ⟨rfl, x8⟩
  have X8 := hide (X5.out.trans x8)
  clear x8
  go_wp2_with fail
  go_ret
  exact ⟨rfl, (PS.refl HPI.out).ext X8.out⟩
end Go.Proofs.YtifloafhpeeepaaGreat
