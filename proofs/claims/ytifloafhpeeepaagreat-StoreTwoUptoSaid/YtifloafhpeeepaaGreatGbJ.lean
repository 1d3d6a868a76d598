/-
  StorePlays: the law's questions.
  StorePlays: the law's other questions.
  StorePlays: the two tell the same.
  StorePlays: the law.
-/
import Derived.Test.YtifloafhpeeepaaGreatGbI
import Derived.Test.YtifloafhpeeepaaGreatExtO
namespace Go.Proofs.YtifloafhpeeepaaGreat
open Go.RowKit

/-- what a question needs to know -/
structure QI (w : World) (B P : Nat → Prop) (x : Nat) (S : SAbs) (N d : Nat) (ob : Nat) (kind kk : Int) (row : List V) (A9 : Option Addr) (c9 : Nat) (w1 : World) : Prop where
  a : AskI w B P x S N d w1 B
  ok : SOk S
  box : Blk w1 ob 62 #[.int .i64 kind, .int .i64 kk, .slice A9 row.length c9]
  obn : ¬ B ob ∧ ¬ P ob
  arg : ArgR w A9 row.length row
  far : ∀ a, A9 = some a → row ≠ [] → ¬ B a.block ∧ ¬ P a.block
theorem DP.rows {w : World} {P : Nat → Prop} {d : Nat} {S : SAbs} (h : DP w P d S) : ∃ AR cR, ∀ (C : Nat → Prop) (w' : World), Chg C w w' → (∀ b, P b → ¬ C b) → w'.cell? ⟨d, 3, none⟩ = some (.slice AR S.rows.length cR) ∧ LAt RRow 1 w' AR S.rows.length S.rows := by
  obtain ⟨AG, cG, AR, cR, Ao, no, co, hI⟩ := h
  refine ⟨AR, cR, fun C w' hc hC => ?_⟩
  have h1 := hI.keep (Q := P) (hc.mono fun g hg _ hp => hC g hp hg) fun _ h => h
  exact ⟨h1.blk.cell 3, h1.rows.lat⟩
set_option maxRecDepth 100000 in
set_option maxHeartbeats 2000000 in
theorem asks34 {w : World} {B P : Nat → Prop} {x d N : Nat} {S : SAbs} (h : PI w B P x S N d S) (hN : N + 3 ≤ 8388608) {kind kk : Int} {row : List V} {A9 : Option Addr} {n9 : Nat} (c9 : Nat) (ha : ArgR w A9 n9 row) (hA : ∀ a, A9 = some a → row ≠ [] → ¬ B a.block ∧ ¬ P a.block) (hk : kind = 3 ∨ kind = 4) :
    Calls Tryz.prog 35 #[.pointer (some ⟨x, 0, none⟩), .pointer (some ⟨d, 0, none⟩), .agg #[.int .i64 kind, .int .i64 kk, .slice A9 n9 c9]] w fun e w' => e = .returned (.bool true) ∧ PS w B P w' x S (N + 3) d := by
  have hlen := ha.at_.len
  obtain rfl := hlen
  have E1 := hide (Ext.alloc w (.cells #[.int .i64 kind, .int .i64 kk, .slice A9 row.length c9] 62))
  have HQ := hide (show QI w B P x S N d w.heap.size kind kk row A9 c9 (w.alloc (.cells #[.int .i64 kind, .int .i64 kk, .slice A9 row.length c9] 62)) from
    ⟨(AskI.start h).ext E1.out, h.s.sok, Blk.new w 62 #[.int .i64 kind, .int .i64 kk, .slice A9 row.length c9], ⟨fun hb => by have := h.bl _ hb; omega, fun hb => by have := h.pl _ hb; omega⟩, ha, hA⟩)
  have HH := hide h
  have HK := hide hk
  clear h ha hA hk
  go_enter Tryz.func35, Tryz.ntmps35
  go_upto_region 2 with fail
  generalize w.alloc (.cells #[.int .i64 kind, .int .i64 kk, .slice A9 row.length c9] 62) = w1 at *
  generalize w.heap.size = ob at *
  have o0 : w1.cell? ⟨ob, 0, none⟩ = some (.int .i64 kind) := HQ.out.box.cell 0
  have o1 : w1.cell? ⟨ob, 1, none⟩ = some (.int .i64 kk) := HQ.out.box.cell 1
  have o2 : w1.cell? ⟨ob, 2, none⟩ = some (.slice A9 row.length c9) := HQ.out.box.cell 2
  have HARG := hide (show ArgR w1 A9 row.length row from HQ.out.arg.ext E1.out)
  have hrl := HQ.out.arg.len
  have HRL := hide hrl
  clear hrl
  by_cases hk3 : kind = 3
  · subst hk3
    obtain ⟨AR, cR, hR⟩ := HQ.out.a.pi.d.rows
    have HR := hide hR
    clear hR
    go_upto_region 3 with fail
    have HST := hide (fun (C : Nat → Prop) (w' : World) (hc : Chg C w1 w') (hP : ∀ b, P b → ¬ C b) (ho : ¬ C ob) => show w'.cell? ⟨ob, 2, none⟩ = some (.slice A9 row.length c9) ∧ w'.cell? ⟨d, 3, none⟩ = some (.slice AR S.rows.length cR) from ⟨(hc.blk HQ.out.box ho).cell 2, (HR.out C w' hc hP).1⟩)
    clear o0 o1 o2
    refine wp_region_ord [(0, true), (1, true), (2, true), (5, true), (6, true), (7, true), (8, true), (9, true), (10, true), (3, false), (4, false), (11, false), (12, true), (13, true)] (fun w' => w'.cell? ⟨ob, 2, none⟩ = some (.slice A9 row.length c9) ∧ w'.cell? ⟨d, 3, none⟩ = some (.slice AR S.rows.length cR)) (by kernel_rfl) (by kernel_rfl) (fun _ _ _ _ _ h => h) ?_ ?_
    · exact fun w' hw' => HST.out (fun _ => False) w' (Chg.of hw') (fun _ _ h => h) (fun h => h)
    intro wq hwq
    have HAQ := hide (HQ.out.a.ext hwq)
    have hobq := HQ.out.obn
    have HCP := hide (copy_st (c := c9) (HARG.out.ext hwq))
    unfold wpO
    refine ⟨_, rfl, ?_⟩
    apply Exists.intro
    refine ⟨.inl ⟨by rfl, fun w9 h9 => ?_⟩, fun K hK => ?_⟩
    · go_simp; first | done | rfl
    go_simp; refine hK _ ?_; clear hK K
    unfold wpO
    refine ⟨_, rfl, ?_⟩
    apply Exists.intro
    refine ⟨.inl ⟨by rfl, fun w9 h9 => ?_⟩, fun K hK => ?_⟩
    · go_simp; first | done | rfl
    go_simp; refine hK _ ?_; clear hK K
    unfold wpO
    refine ⟨_, rfl, ?_⟩
    apply Exists.intro
    refine ⟨.inl ⟨by rfl, fun w9 h9 => ?_⟩, fun K hK => ?_⟩
    · go_simp; first | done | rfl
    go_simp; refine hK _ ?_; clear hK K
    unfold wpO
    refine ⟨_, rfl, ?_⟩
    apply Exists.intro
    refine ⟨.inl ⟨by rfl, fun w9 h9 => ?_⟩, fun K hK => ?_⟩
    · go_simp; first | done | rfl
    go_simp; refine hK _ ?_; clear hK K
    unfold wpO
    refine ⟨_, rfl, ?_⟩
    apply Exists.intro
    refine ⟨.inl ⟨by rfl, fun w9 h9 => ?_⟩, fun K hK => ?_⟩
    · go_simp; first | done | rfl
    go_simp; refine hK _ ?_; clear hK K
    unfold wpO
    refine ⟨_, rfl, ?_⟩
    apply Exists.intro
    refine ⟨.inl ⟨by rfl, fun w9 h9 => ?_⟩, fun K hK => ?_⟩
    · go_simp; first | done | rfl
    go_simp; refine hK _ ?_; clear hK K
    unfold wpO
    refine ⟨_, rfl, ?_⟩
    apply Exists.intro
    refine ⟨.inl ⟨by rfl, fun w9 h9 => ?_⟩, fun K hK => ?_⟩
    · go_simp; first | done | rfl
    go_simp; refine hK _ ?_; clear hK K
    unfold wpO
    refine ⟨_, rfl, ?_⟩
    apply Exists.intro
    refine ⟨.inl ⟨by rfl, fun w9 h9 => ?_⟩, fun K hK => ?_⟩
    · go_simp; first | done | rfl
    go_simp; refine hK _ ?_; clear hK K
    unfold wpO
    refine ⟨_, rfl, ?_⟩
    apply Exists.intro
    refine ⟨.inl ⟨by rfl, fun w9 h9 => ?_⟩, fun K hK => ?_⟩
    · go_simp; first | done | rfl
    go_simp; refine hK _ ?_; clear hK K
    unfold wpO
    refine ⟨_, rfl, ?_⟩
    go_wp2_with ((with_reducible refine HCP.out.mono ?_); rintro e w3 ⟨A3, c3, rfl, h3, x3⟩; have HA3 := hide h3; have X3 := hide (hwq.trans x3); clear h3 x3)
    simp only [exL]
    refine ⟨HST.out (fun _ => False) w3 (Chg.of X3.out) (fun _ _ h => h) (fun h => h), ?_⟩
    have HA3I := hide (HQ.out.a.ext X3.out)
    have HHS := hide (has_st HA3I.out.pi.s (by omega) c3 HA3.out)
    obtain ⟨bb, hbb⟩ : ∃ bb, inB S.rows row = bb := ⟨_, rfl⟩
    have HBB := hide hbb
    rw [hbb] at HHS
    clear hbb HCP
    unfold wpO
    refine ⟨_, rfl, ?_⟩
    go_wp2_with ((with_reducible refine HHS.out.mono ?_); rintro e w4 ⟨rfl, hs4⟩; have S4 := hide hs4; clear hs4)
    simp only [exL]
    obtain ⟨B4, a4, hc4, hb4⟩ := HA3I.out.sts S4.out
    have HC4 := hide ((Chg.of X3.out (B := B)).trans hc4 fun _ h _ => h)
    refine ⟨HST.out B w4 HC4.out (fun b hp hb => HA3I.out.pi.sep b hb hp) hobq.1, ?_⟩
    have HA4 := hide a4
    clear a4 hc4 hb4 HHS
    have HHR := hide (has_inB S.rows row AR A9 S.rows.length row.length cR c9 w4 (HR.out B w4 HC4.out (fun b hp hb => HA3I.out.pi.sep b hb hp)).2 (HARG.out.chg2 (fun a ha hr => (HQ.out.far a ha hr).1) HC4.out).at_ (by have := HQ.out.ok.len; have := HQ.out.ok.most; omega) (fun s hs => by have := HQ.out.ok.small s hs; omega))
    rw [HBB.out] at HHR
    unfold wpO
    refine ⟨_, rfl, ?_⟩
    go_wp2_with ((with_reducible refine HHR.out.mono ?_); rintro e w5 ⟨rfl, x5⟩; have X5 := hide x5; clear x5)
    simp only [exL]
    refine ⟨HST.out B w5 (HC4.out.trans' (Chg.of X5.out)) (fun b hp hb => HA3I.out.pi.sep b hb hp) hobq.1, ?_⟩
    have hbeq : (bb == bb) = true := beq_self_eq_true bb
    have HFI := hide ((HA4.out.ext X5.out).ps)
    clear HST HHR HR
    unfold wpO
    refine ⟨_, rfl, ?_⟩
    apply Exists.intro
    refine ⟨.inl ⟨by rfl, fun w9 h9 => ?_⟩, fun K hK => ?_⟩
    · go_simp; first | done | rfl
    go_simp; refine hK _ ?_; clear hK K
    unfold wpO
    refine ⟨_, rfl, ?_⟩
    apply Exists.intro
    refine ⟨.inl ⟨by rfl, fun w9 h9 => ?_⟩, fun K hK => ?_⟩
    · go_simp; first | done | rfl
    go_simp; refine hK _ ?_; clear hK K
    unfold wpO
    go_wp2_with fail
    go_ret
    obtain ⟨B', P', k1, k2⟩ := HFI.out
    exact ⟨rfl, B', P', ⟨k1.s.more (by omega), k1.d, k1.sep, k1.bl, k1.pl, k1.ob⟩, k2⟩
  · have hk3' : (kind == 3) = false := by simpa using hk3
    by_cases hk4 : kind = 4
    · subst hk4
      obtain ⟨AR, cR, hR⟩ := HQ.out.a.pi.d.rows
      have HR := hide hR
      clear hR
      go_upto_region 5 with fail
      have HST := hide (fun (C : Nat → Prop) (w' : World) (hc : Chg C w1 w') (hP : ∀ b, P b → ¬ C b) => show w'.cell? ⟨d, 3, none⟩ = some (.slice AR S.rows.length cR) from (HR.out C w' hc hP).1)
      have HRW := hide (fun (wq : World) (hwq : Ext w1 wq) => rows_st (HQ.out.a.ext hwq).pi.s)
      obtain ⟨len, hle⟩ : ∃ len, S.rows.length = len := ⟨_, rfl⟩
      rw [hle] at HST HRW
      have HLE := hide hle
      clear o0 o1 o2 hle
      refine wp_region_ord [(0, true), (2, true), (3, true), (4, true), (5, true), (1, false), (6, false), (7, true), (8, true), (10, true), (11, true), (12, true), (13, true), (14, true), (9, false), (15, true), (16, true), (17, true)] (fun w' => w'.cell? ⟨d, 3, none⟩ = some (.slice AR len cR)) (by kernel_rfl) (by kernel_rfl) (fun _ _ _ _ _ h => h) ?_ ?_
      · exact fun w' hw' => HST.out (fun _ => False) w' (Chg.of hw') (fun _ _ h => h)
      intro wq hwq
      have HWQ := hide hwq
      unfold wpO
      refine ⟨_, rfl, ?_⟩
      apply Exists.intro
      refine ⟨.inl ⟨by rfl, fun w9 h9 => ?_⟩, fun K hK => ?_⟩
      · go_simp; first | done | rfl
      go_simp; refine hK _ ?_; clear hK K
      unfold wpO
      refine ⟨_, rfl, ?_⟩
      apply Exists.intro
      refine ⟨.inl ⟨by rfl, fun w9 h9 => ?_⟩, fun K hK => ?_⟩
      · go_simp; first | done | rfl
      go_simp; refine hK _ ?_; clear hK K
      unfold wpO
      refine ⟨_, rfl, ?_⟩
      apply Exists.intro
      refine ⟨.inl ⟨by rfl, fun w9 h9 => ?_⟩, fun K hK => ?_⟩
      · go_simp; first | done | rfl
      go_simp; refine hK _ ?_; clear hK K
      unfold wpO
      refine ⟨_, rfl, ?_⟩
      apply Exists.intro
      refine ⟨.inl ⟨by rfl, fun w9 h9 => ?_⟩, fun K hK => ?_⟩
      · go_simp; first | done | rfl
      go_simp; refine hK _ ?_; clear hK K
      unfold wpO
      refine ⟨_, rfl, ?_⟩
      apply Exists.intro
      refine ⟨.inl ⟨by rfl, fun w9 h9 => ?_⟩, fun K hK => ?_⟩
      · go_simp; first | done | rfl
      go_simp; refine hK _ ?_; clear hK K
      unfold wpO
      refine ⟨_, rfl, ?_⟩
      go_wp2_with ((with_reducible refine (HRW.out wq hwq).mono ?_); rintro e w3 ⟨A3, c3, M3, rfl, hm3, hs3⟩; have S3 := hide hs3; have T3 := hide hm3; clear hm3 hs3)
      simp only [exL]
      obtain ⟨B3, a3, hc3, hb3, hM1, hM2, hM3⟩ := (HQ.out.a.ext HWQ.out).sm S3.out
      have HC3 := hide ((Chg.of HWQ.out (B := B)).trans hc3 fun _ h _ => h)
      have hsepB : ∀ b, P b → ¬ B b := fun b hp hb => HQ.out.a.pi.sep b hb hp
      refine ⟨HST.out B w3 HC3.out hsepB, ?_⟩
      have HA3 := hide a3
      have HSA := hide (same_all S.rows S.rows A3 AR len len c3 cR w3 (T3.out.told (P := fun _ => True) fun _ _ _ => trivial).lat (by have := (HR.out B w3 HC3.out hsepB).2; rw [HLE.out] at this; exact this) (by have := HQ.out.ok.len; have := HQ.out.ok.most; have := HLE.out; omega) (fun s hs => by have := HQ.out.ok.small s hs; omega))
      rw [sameRs_iff.2 rfl] at HSA
      clear a3 hc3 hb3 hM1 hM2 hM3 hwq HRW
      unfold wpO
      refine ⟨_, rfl, ?_⟩
      go_wp2_with ((with_reducible refine HSA.out.mono ?_); rintro e w4 ⟨rfl, x4⟩; have X4 := hide x4; clear x4)
      simp only [exL]
      have HA4 := hide (HA3.out.ext X4.out)
      have HC4 := hide (HC3.out.trans' (Chg.of X4.out))
      refine ⟨HST.out B w4 HC4.out hsepB, ?_⟩
      have HLN := hide (lens_st HA4.out.pi.s)
      rw [HLE.out] at HLN
      clear HSA HA3 HC3
      unfold wpO
      refine ⟨_, rfl, ?_⟩
      apply Exists.intro
      refine ⟨.inl ⟨by rfl, fun w9 h9 => ?_⟩, fun K hK => ?_⟩
      · go_simp; first | done | rfl
      go_simp; refine hK _ ?_; clear hK K
      unfold wpO
      refine ⟨_, rfl, ?_⟩
      apply Exists.intro
      refine ⟨.inl ⟨by rfl, fun w9 h9 => ?_⟩, fun K hK => ?_⟩
      · go_simp; first | done | rfl
      go_simp; refine hK _ ?_; clear hK K
      unfold wpO
      refine ⟨_, rfl, ?_⟩
      apply Exists.intro
      refine ⟨.inl ⟨by rfl, fun w9 h9 => ?_⟩, fun K hK => ?_⟩
      · go_simp; first | done | rfl
      go_simp; refine hK _ ?_; clear hK K
      unfold wpO
      refine ⟨_, rfl, ?_⟩
      apply Exists.intro
      refine ⟨.inl ⟨by rfl, fun w9 h9 => ?_⟩, fun K hK => ?_⟩
      · go_simp; first | done | rfl
      go_simp; refine hK _ ?_; clear hK K
      unfold wpO
      refine ⟨_, rfl, ?_⟩
      apply Exists.intro
      refine ⟨.inl ⟨by rfl, fun w9 h9 => ?_⟩, fun K hK => ?_⟩
      · go_simp; first | done | rfl
      go_simp; refine hK _ ?_; clear hK K
      unfold wpO
      refine ⟨_, rfl, ?_⟩
      apply Exists.intro
      refine ⟨.inl ⟨by rfl, fun w9 h9 => ?_⟩, fun K hK => ?_⟩
      · go_simp; first | done | rfl
      go_simp; refine hK _ ?_; clear hK K
      unfold wpO
      refine ⟨_, rfl, ?_⟩
      apply Exists.intro
      refine ⟨.inl ⟨by rfl, fun w9 h9 => ?_⟩, fun K hK => ?_⟩
      · go_simp; first | done | rfl
      go_simp; refine hK _ ?_; clear hK K
      unfold wpO
      refine ⟨_, rfl, ?_⟩
      go_wp2_with ((with_reducible refine HLN.out.mono ?_); rintro e w5 ⟨rfl, x5⟩; have X5 := hide x5; clear x5)
      simp only [exL]
      refine ⟨HST.out B w5 (HC4.out.trans' (Chg.of X5.out)) hsepB, ?_⟩
      have HFI := hide ((HA4.out.ext X5.out).ps)
      clear HST HLN HR
      unfold wpO
      refine ⟨_, rfl, ?_⟩
      apply Exists.intro
      refine ⟨.inl ⟨by rfl, fun w9 h9 => ?_⟩, fun K hK => ?_⟩
      · go_simp; first | done | rfl
      go_simp; refine hK _ ?_; clear hK K
      unfold wpO
      refine ⟨_, rfl, ?_⟩
      apply Exists.intro
      refine ⟨.inl ⟨by rfl, fun w9 h9 => ?_⟩, fun K hK => ?_⟩
      · go_simp; first | done | rfl
      go_simp; refine hK _ ?_; clear hK K
      unfold wpO
      refine ⟨_, rfl, ?_⟩
      apply Exists.intro
      refine ⟨.inl ⟨by rfl, fun w9 h9 => ?_⟩, fun K hK => ?_⟩
      · go_simp; first | done | rfl
      go_simp; refine hK _ ?_; clear hK K
      unfold wpO
      go_wp2_with fail
      go_ret
      obtain ⟨B', P', k1, k2⟩ := HFI.out
      exact ⟨rfl, B', P', ⟨k1.s.more (by omega), k1.d, k1.sep, k1.bl, k1.pl, k1.ob⟩, k2⟩
    · exact (HK.out.elim hk3 hk4).elim
end Go.Proofs.YtifloafhpeeepaaGreat

namespace Go.Proofs.YtifloafhpeeepaaGreat
open Go.RowKit

theorem group_any {w : World} {B P : Nat → Prop} {x d N : Nat} {S : SAbs} (h : PI w B P x S N d S) (hN : N + 3 ≤ 8388608) (kk : Int) {key : List V} {A : Option Addr} {n : Nat} (c : Nat) (ha : ArgR w A n key) (hA : ∀ a, A = some a → key ≠ [] → ¬ B a.block ∧ ¬ P a.block) :
    Calls Tryz.prog 67 #[.pointer (some ⟨x, 0, none⟩), .pointer (some ⟨d, 0, none⟩), .int .i64 kk, .slice A n c] w fun e w' => e = .returned (.bool true) ∧ PS w B P w' x S (N + 3) d := by
  by_cases hk : 0 ≤ kk ∧ kk < (S.gs.length : Int)
  · obtain ⟨k, rfl⟩ : ∃ k : Nat, kk = k := ⟨kk.toNat, by omega⟩
    obtain ⟨g, hg⟩ : ∃ g, S.gs[k]? = some g := ⟨_, List.getElem?_eq_getElem (by omega)⟩
    exact group_law h hN hg c ha hA
  · exact (group_law_bad h (by omega) c ha).mono fun e w' h => ⟨h.1, h.2.more (by omega)⟩
/-- what Next tells -/
def NOut (q : List V) (b : Bool) (er : Int) (e : Ending) (w' : World) : Prop := ∃ A c, e = .returned (.tuple #[.slice A q.length c, .bool b, .int .i64 er]) ∧ RowAt w' A q.length q
theorem StS.refl {w : World} {B : Nat → Prop} {x N : Nat} {S : SAbs} (h : StI w B x S N) (hb : ∀ b, B b → b < w.heap.size) : StS w B x S N w := ⟨B, h, fun _ h => .inl h, hb, Chg.refl _ _⟩
theorem nexts {S : SAbs} (hs : SOk S) (kk : Int) (r : List V) : ∃ (q : List V) (b : Bool) (er : Int), q.length ≤ 30 ∧
    (∀ (w : World) (B : Nat → Prop) (x N : Nat), StI w B x S N → (∀ b, B b → b < w.heap.size) → N ≤ 8388608 → ∀ (A : Option Addr) (n c : Nat), ArgR w A n r → Calls Tryz.prog 25 #[.pointer (some ⟨x, 0, none⟩), .int .i64 kk, .slice A n c] w fun e w' => NOut q b er e w' ∧ StS w B x S (N + 1) w') ∧
    (∀ (w : World) (P : Nat → Prop) (d : Nat), DP w P d S → ∀ (A : Option Addr) (n c : Nat), ArgR w A n r → Calls Tryz.prog 68 #[.pointer (some ⟨d, 0, none⟩), .int .i64 kk, .slice A n c] w fun e w' => NOut q b er e w' ∧ Ext w w') := by
  by_cases hk : 0 ≤ kk ∧ kk < (S.gs.length : Int)
  · obtain ⟨k, rfl⟩ : ∃ k : Nat, kk = k := ⟨kk.toNat, by omega⟩
    obtain ⟨g, hg⟩ : ∃ g, S.gs[k]? = some g := ⟨_, List.getElem?_eq_getElem (by omega)⟩
    cases hi : inB S.rows r with
    | false =>
      refine ⟨[], false, 62, by simp, fun w B x N h hb hN A n c ha => (next_st h hN hg c ha).mono fun e w' h2 => ?_, fun w P d h A n c ha => (dnext h hs hg c ha).mono fun e w' h2 => ?_⟩
      · rcases h2 with ⟨-, rfl, h4⟩ | ⟨h3, -⟩
        · exact ⟨⟨none, 0, rfl, RowAt.nil _ _⟩, h4⟩
        · rw [hi] at h3; cases h3
      · rcases h2.2 with ⟨-, rfl⟩ | ⟨h3, -⟩
        · exact ⟨⟨none, 0, rfl, RowAt.nil _ _⟩, h2.1⟩
        · rw [hi] at h3; cases h3
    | true =>
      have hnd : (grpS S k (keyR g r)).Nodup := by rw [grpS_at hg]; exact hs.nd.filter _
      have hme : r ∈ grpS S k (keyR g r) := by rw [grpS_at hg]; exact List.mem_filter.2 ⟨inB_iff.1 hi, sameR_iff.2 rfl⟩
      have hsm : ∀ q ∈ grpS S k (keyR g r), q.length ≤ 30 := by rw [grpS_at hg]; exact fun q hq => hs.small q (List.mem_filter.1 hq).1
      obtain ⟨i, hil, hir⟩ := List.getElem_of_mem hme
      have hig : (grpS S k (keyR g r))[i]? = some r := by rw [List.getElem?_eq_getElem hil, hir]
      cases ho : (grpS S k (keyR g r))[i + 1]? with
      | none =>
        refine ⟨[], false, 0, by simp, fun w B x N h hb hN A n c ha => (next_st h hN hg c ha).mono fun e w' h2 => ?_, fun w P d h A n c ha => (dnext h hs hg c ha).mono fun e w' h2 => ?_⟩
        · rcases h2 with ⟨h3, -⟩ | ⟨-, j, hj, h4⟩
          · rw [hi] at h3; cases h3
          · obtain rfl := nodup_at hnd hig hj
            rw [ho] at h4
            obtain ⟨rfl, h4⟩ := h4
            exact ⟨⟨none, 0, rfl, RowAt.nil _ _⟩, h4⟩
        · rcases h2.2 with ⟨h3, -⟩ | ⟨-, h4⟩
          · rw [hi] at h3; cases h3
          · have h4 := h4 i hig
            rw [ho] at h4
            obtain rfl := h4
            exact ⟨⟨none, 0, rfl, RowAt.nil _ _⟩, h2.1⟩
      | some q =>
        refine ⟨q, true, 0, hsm q (List.mem_of_getElem? ho), fun w B x N h hb hN A n c ha => (next_st h hN hg c ha).mono fun e w' h2 => ?_, fun w P d h A n c ha => (dnext h hs hg c ha).mono fun e w' h2 => ?_⟩
        · rcases h2 with ⟨h3, -⟩ | ⟨-, j, hj, h4⟩
          · rw [hi] at h3; cases h3
          · obtain rfl := nodup_at hnd hig hj
            rw [ho] at h4
            obtain ⟨A', c', M, rfl, h5, h6⟩ := h4
            exact ⟨⟨A', c', rfl, RowAt.own h5⟩, h6.sts⟩
        · rcases h2.2 with ⟨h3, -⟩ | ⟨-, h4⟩
          · rw [hi] at h3; cases h3
          · have h4 := h4 i hig
            rw [ho] at h4
            obtain ⟨A', c', rfl, h5⟩ := h4
            exact ⟨⟨A', c', rfl, h5⟩, h2.1⟩
  · refine ⟨[], false, 63, by simp, fun w B x N h hb hN A n c ha => (next_bad h (by omega) A n c).mono fun e w' h2 => ?_, fun w P d h A n c ha => (dnext_bad h (by omega) A n c).mono fun e w' h2 => ?_⟩
    · obtain ⟨rfl, rfl⟩ := h2
      exact ⟨⟨none, 0, rfl, RowAt.nil _ _⟩, StS.refl (h.more (by omega)) hb⟩
    · obtain ⟨rfl, rfl⟩ := h2
      exact ⟨⟨none, 0, rfl, RowAt.nil _ _⟩, Ext.refl _⟩
/-- what Keys tells -/
def KOut (K : List (List V)) (er : Int) (e : Ending) (w' : World) : Prop := ∃ A c, e = .returned (.tuple #[.slice A K.length c, .int .i64 er]) ∧ LAt RRow 1 w' A K.length K
theorem keysS_small {S : SAbs} (hs : SOk S) {k : Nat} {g : List Nat} (hg : S.gs[k]? = some g) : (keysS S g).length ≤ 65536 ∧ ∀ q ∈ keysS S g, KeyGood g q := by
  refine ⟨?_, fun q hq => ?_⟩
  · have h1 := arr_len (S.rows.map (keyR g))
    rw [List.length_map] at h1
    have := hs.len; have := hs.most
    unfold keysS
    omega
  · obtain ⟨r, hr, rfl⟩ := List.mem_map.1 (mem_arr.1 hq)
    exact hs.key hg hr
theorem keyss {S : SAbs} (hs : SOk S) (kk : Int) : ∃ (K : List (List V)) (er : Int), K.length ≤ 65536 ∧ (∀ q ∈ K, q.length ≤ 30) ∧
    (∀ (w : World) (B : Nat → Prop) (x N : Nat), StI w B x S N → Calls Tryz.prog 15 #[.pointer (some ⟨x, 0, none⟩), .int .i64 kk] w fun e w' => KOut K er e w' ∧ Ext w w') ∧
    (∀ (w : World) (P : Nat → Prop) (d : Nat), DP w P d S → Calls Tryz.prog 69 #[.pointer (some ⟨d, 0, none⟩), .int .i64 kk] w fun e w' => KOut K er e w' ∧ Ext w w') := by
  by_cases hk : 0 ≤ kk ∧ kk < (S.gs.length : Int)
  · obtain ⟨k, rfl⟩ : ∃ k : Nat, kk = k := ⟨kk.toNat, by omega⟩
    obtain ⟨g, hg⟩ : ∃ g, S.gs[k]? = some g := ⟨_, List.getElem?_eq_getElem (by omega)⟩
    obtain ⟨h1, h2⟩ := keysS_small hs hg
    refine ⟨keysS S g, 0, h1, fun q hq => ?_, fun w B x N h => (keys_st h hg).mono fun e w' h3 => ?_, fun w P d h => (dkeys h hs hg).mono fun e w' h3 => ?_⟩
    · have h3 := (h2 q hq).len
      have h4 := (hs.gs g (List.mem_of_getElem? hg)).1
      omega
    · obtain ⟨A, c, K, hK, rfl, h4, h5⟩ := h3
      obtain rfl := hK.eq
      exact ⟨⟨A, c, rfl, (h4.told (P := fun _ => True) fun _ _ _ => trivial).lat⟩, h5⟩
    · obtain ⟨A, c, rfl, h4, h5⟩ := h3
      exact ⟨⟨A, c, rfl, (h4.told (P := fun _ => True) fun _ _ _ => trivial).lat⟩, h5⟩
  · refine ⟨[], 63, by simp, by simp, fun w B x N h => (keys_bad h (by omega)).mono fun e w' h3 => ?_, fun w P d h => (dkeys_bad h (by omega)).mono fun e w' h3 => ?_⟩
    · obtain ⟨rfl, rfl⟩ := h3
      exact ⟨⟨none, 0, rfl, LAt.nil _⟩, Ext.refl _⟩
    · obtain ⟨rfl, rfl⟩ := h3
      exact ⟨⟨none, 0, rfl, LAt.nil _⟩, Ext.refl _⟩
set_option maxRecDepth 100000 in
set_option maxHeartbeats 2000000 in
theorem asks567 {w : World} {B P : Nat → Prop} {x d N : Nat} {S : SAbs} (h : PI w B P x S N d S) (hN : N + 3 ≤ 8388608) {kind kk : Int} {row : List V} {A9 : Option Addr} {n9 : Nat} (c9 : Nat) (ha : ArgR w A9 n9 row) (hA : ∀ a, A9 = some a → row ≠ [] → ¬ B a.block ∧ ¬ P a.block) (hk3 : ¬ kind = 3) (hk4 : ¬ kind = 4) :
    Calls Tryz.prog 35 #[.pointer (some ⟨x, 0, none⟩), .pointer (some ⟨d, 0, none⟩), .agg #[.int .i64 kind, .int .i64 kk, .slice A9 n9 c9]] w fun e w' => e = .returned (.bool true) ∧ PS w B P w' x S (N + 3) d := by
  have hlen := ha.at_.len
  obtain rfl := hlen
  have E1 := hide (Ext.alloc w (.cells #[.int .i64 kind, .int .i64 kk, .slice A9 row.length c9] 62))
  have HQ := hide (show QI w B P x S N d w.heap.size kind kk row A9 c9 (w.alloc (.cells #[.int .i64 kind, .int .i64 kk, .slice A9 row.length c9] 62)) from
    ⟨(AskI.start h).ext E1.out, h.s.sok, Blk.new w 62 #[.int .i64 kind, .int .i64 kk, .slice A9 row.length c9], ⟨fun hb => by have := h.bl _ hb; omega, fun hb => by have := h.pl _ hb; omega⟩, ha, hA⟩)
  have HH := hide h
  clear h ha hA
  go_enter Tryz.func35, Tryz.ntmps35
  go_upto_region 2 with fail
  generalize w.alloc (.cells #[.int .i64 kind, .int .i64 kk, .slice A9 row.length c9] 62) = w1 at *
  generalize w.heap.size = ob at *
  have o0 : w1.cell? ⟨ob, 0, none⟩ = some (.int .i64 kind) := HQ.out.box.cell 0
  have o1 : w1.cell? ⟨ob, 1, none⟩ = some (.int .i64 kk) := HQ.out.box.cell 1
  have o2 : w1.cell? ⟨ob, 2, none⟩ = some (.slice A9 row.length c9) := HQ.out.box.cell 2
  have HARG := hide (show ArgR w1 A9 row.length row from HQ.out.arg.ext E1.out)
  have hrl := HQ.out.arg.len
  have HRL := hide hrl
  clear hrl
  have hk3' : (kind == 3) = false := by simpa using hk3
  have hk4' : (kind == 4) = false := by simpa using hk4
  have HST := hide (fun (C : Nat → Prop) (w' : World) (hc : Chg C w1 w') (ho : ¬ C ob) => show w'.cell? ⟨ob, 1, none⟩ = some (.int .i64 kk) ∧ w'.cell? ⟨ob, 2, none⟩ = some (.slice A9 row.length c9) from ⟨(hc.blk HQ.out.box ho).cell 1, (hc.blk HQ.out.box ho).cell 2⟩)
  by_cases hk5 : kind = 5
  · subst hk5
    have HG := hide (group_any HQ.out.a.pi hN kk c9 HARG.out HQ.out.far)
    clear hk3 hk4 hk3' hk4'
    go_wp2_with fail
    refine HG.out.mono ?_
    rintro e w2 ⟨rfl, hs2⟩
    have S2 := hide hs2
    clear hs2
    go_wp2_with fail
    go_ret
    exact ⟨rfl, S2.out.pre E1.out⟩
  have hk5' : (kind == 5) = false := by simpa using hk5
  by_cases hk6 : kind = 6
  · subst hk6
    obtain ⟨q, bb, er, hq30, hns, hnd⟩ := nexts HQ.out.ok kk row
    have HNS := hide hns; have HND := hide hnd
    clear hns hnd
    clear hk3 hk4 hk5
    go_upto_region 9 with fail
    refine wp_region_ord [(0, true), (1, true), (2, true), (3, true), (4, true), (5, false), (6, false), (7, true), (8, true), (9, true), (10, true), (11, true), (12, true), (13, true)] (fun w' => w'.cell? ⟨ob, 1, none⟩ = some (.int .i64 kk) ∧ w'.cell? ⟨ob, 2, none⟩ = some (.slice A9 row.length c9)) (by kernel_rfl) (by kernel_rfl) (fun _ _ _ _ _ h => h) ?_ ?_
    · exact fun w' hw' => HST.out (fun _ => False) w' (Chg.of hw') (fun h => h)
    intro wq hwq
    have HAQ := hide (HQ.out.a.ext hwq)
    have hobq := HQ.out.obn
    have HCP := hide (copy_st (c := c9) (HARG.out.ext hwq))
    clear o0 o1 o2
    unfold wpO
    refine ⟨_, rfl, ?_⟩
    apply Exists.intro
    refine ⟨.inl ⟨by rfl, fun w9 h9 => ?_⟩, fun K hK => ?_⟩
    · go_simp; first | done | rfl
    go_simp; refine hK _ ?_; clear hK K
    unfold wpO
    refine ⟨_, rfl, ?_⟩
    apply Exists.intro
    refine ⟨.inl ⟨by rfl, fun w9 h9 => ?_⟩, fun K hK => ?_⟩
    · go_simp; first | done | rfl
    go_simp; refine hK _ ?_; clear hK K
    unfold wpO
    refine ⟨_, rfl, ?_⟩
    apply Exists.intro
    refine ⟨.inl ⟨by rfl, fun w9 h9 => ?_⟩, fun K hK => ?_⟩
    · go_simp; first | done | rfl
    go_simp; refine hK _ ?_; clear hK K
    unfold wpO
    refine ⟨_, rfl, ?_⟩
    apply Exists.intro
    refine ⟨.inl ⟨by rfl, fun w9 h9 => ?_⟩, fun K hK => ?_⟩
    · go_simp; first | done | rfl
    go_simp; refine hK _ ?_; clear hK K
    unfold wpO
    refine ⟨_, rfl, ?_⟩
    apply Exists.intro
    refine ⟨.inl ⟨by rfl, fun w9 h9 => ?_⟩, fun K hK => ?_⟩
    · go_simp; first | done | rfl
    go_simp; refine hK _ ?_; clear hK K
    unfold wpO
    refine ⟨_, rfl, ?_⟩
    go_wp2_with ((with_reducible refine HCP.out.mono ?_); rintro e w3 ⟨A3, c3, rfl, h3, x3⟩; have HA3 := hide h3; have X3 := hide (hwq.trans x3); clear h3 x3)
    simp only [exL]
    refine ⟨HST.out (fun _ => False) w3 (Chg.of X3.out) (fun h => h), ?_⟩
    have HA3I := hide (HQ.out.a.ext X3.out)
    have HNX := hide (HNS.out _ _ _ _ HA3I.out.pi.s HA3I.out.pi.bl (by omega) _ _ c3 HA3.out)
    clear HCP HNS hwq
    unfold wpO
    refine ⟨_, rfl, ?_⟩
    go_wp2_with ((with_reducible refine HNX.out.mono ?_); rintro e w4 ⟨⟨A4, c4, rfl, h4⟩, hs4⟩; have S4 := hide hs4; have R4 := hide h4; clear hs4 h4)
    simp only [exL]
    obtain ⟨B4, a4, hc4, hb4⟩ := HA3I.out.sts S4.out
    have HC4 := hide ((Chg.of X3.out (B := B)).trans hc4 fun _ h _ => h)
    refine ⟨HST.out B w4 HC4.out hobq.1, ?_⟩
    have HA4 := hide a4
    obtain ⟨o1, o2⟩ := HST.out B w4 HC4.out hobq.1
    have HDN := hide (HND.out _ _ _ HA4.out.pi.d _ _ c9 (HARG.out.chg2 (fun a ha hr => (HQ.out.far a ha hr).1) HC4.out))
    have HSQ := hide (fun (w5 : World) (x5 : Ext w4 w5) (A5 : Option Addr) (c5 : Nat) (h5 : RowAt w5 A5 q.length q) => same_any q q A4 A5 q.length q.length c4 c5 w5 (R4.out.ext x5) h5 (by omega))
    rw [sameR_iff.2 rfl] at HSQ
    have HFI := hide HA4.out.ps
    clear a4 hc4 hb4 HNX HND HST
    have hb1 : (bb == bb) = true := beq_self_eq_true bb
    have hb2 : (er == er) = true := beq_self_eq_true er
    unfold wpO
    refine ⟨_, rfl, ?_⟩
    apply Exists.intro
    refine ⟨.inl ⟨by rfl, fun w9 h9 => ?_⟩, fun K hK => ?_⟩
    · go_simp; first | done | rfl
    go_simp; refine hK _ ?_; clear hK K
    unfold wpO
    refine ⟨_, rfl, ?_⟩
    apply Exists.intro
    refine ⟨.inl ⟨by rfl, fun w9 h9 => ?_⟩, fun K hK => ?_⟩
    · go_simp; first | done | rfl
    go_simp; refine hK _ ?_; clear hK K
    unfold wpO
    refine ⟨_, rfl, ?_⟩
    apply Exists.intro
    refine ⟨.inl ⟨by rfl, fun w9 h9 => ?_⟩, fun K hK => ?_⟩
    · go_simp; first | done | rfl
    go_simp; refine hK _ ?_; clear hK K
    unfold wpO
    refine ⟨_, rfl, ?_⟩
    apply Exists.intro
    refine ⟨.inl ⟨by rfl, fun w9 h9 => ?_⟩, fun K hK => ?_⟩
    · go_simp; first | done | rfl
    go_simp; refine hK _ ?_; clear hK K
    unfold wpO
    refine ⟨_, rfl, ?_⟩
    apply Exists.intro
    refine ⟨.inl ⟨by rfl, fun w9 h9 => ?_⟩, fun K hK => ?_⟩
    · go_simp; first | done | rfl
    go_simp; refine hK _ ?_; clear hK K
    unfold wpO
    refine ⟨_, rfl, ?_⟩
    apply Exists.intro
    refine ⟨.inl ⟨by rfl, fun w9 h9 => ?_⟩, fun K hK => ?_⟩
    · go_simp; first | done | rfl
    go_simp; refine hK _ ?_; clear hK K
    unfold wpO
    refine ⟨_, rfl, ?_⟩
    apply Exists.intro
    refine ⟨.inl ⟨by rfl, fun w9 h9 => ?_⟩, fun K hK => ?_⟩
    · go_simp; first | done | rfl
    go_simp; refine hK _ ?_; clear hK K
    unfold wpO
    go_wp2_with ((with_reducible refine HDN.out.mono ?_); rintro e w5 ⟨⟨A5, c5, rfl, h5⟩, x5⟩; have R5 := hide h5; have X5 := hide x5; clear h5 x5)
    refine (HSQ.out w5 X5.out A5 c5 R5.out).mono ?_
    rintro e w6 ⟨rfl, x6⟩
    have X6 := hide (X5.out.trans x6)
    clear x6 HDN HSQ
    go_wp2_with fail
    go_ret
    exact ⟨rfl, (HFI.out.ext X6.out).more (by omega)⟩
  have hk6' : (kind == 6) = false := by simpa using hk6
  by_cases hk7 : kind = 7
  · subst hk7
    obtain ⟨K, er, hK1, hK2, hns, hnd⟩ := keyss HQ.out.ok kk
    have HNS := hide (hns _ _ _ _ HQ.out.a.pi.s); have HND := hide (fun (w2 : World) (x2 : Ext w1 w2) => hnd _ _ _ (HQ.out.a.ext x2).pi.d)
    have HSQ := hide (fun (w5 : World) (A4 A5 : Option Addr) (c4 c5 : Nat) (h4 : LAt RRow 1 w5 A4 K.length K) (h5 : LAt RRow 1 w5 A5 K.length K) => same_all K K A4 A5 K.length K.length c4 c5 w5 h4 h5 (by omega) (fun s hs => by have := hK2 s hs; omega))
    rw [sameRs_iff.2 rfl] at HSQ
    have HFI := hide HQ.out.a.ps
    have hb2 : (er == er) = true := beq_self_eq_true er
    clear hns hnd hK1 hK2 hk3 hk4 hk5 hk6
    go_wp2_with ((with_reducible refine HNS.out.mono ?_); rintro e w2 ⟨⟨A2, c2, rfl, h2⟩, x2⟩; have L2 := hide h2; have X2 := hide x2; have o1 := X2.out.cell o1; have HD2 := hide (HND.out w2 X2.out); clear h2 x2 HNS HND)
    refine HD2.out.mono ?_
    rintro e w3 ⟨⟨A3, c3, rfl, h3⟩, x3⟩
    have X3 := hide (X2.out.trans x3)
    have HSA := hide (HSQ.out w3 A2 A3 c2 c3 (L2.out.ext RRow.stab x3) h3)
    clear h3 x3 HD2 HSQ
    go_wp2_with fail
    refine HSA.out.mono ?_
    rintro e w4 ⟨rfl, x4⟩
    have X4 := hide (X3.out.trans x4)
    clear x4 HSA
    go_wp2_with fail
    go_ret
    exact ⟨rfl, (HFI.out.ext X4.out).more (by omega)⟩
  have hk7' : (kind == 7) = false := by simpa using hk7
  have HFI := hide HQ.out.a.ps
  go_wp2_with fail
  go_ret
  exact ⟨rfl, HFI.out.more (by omega)⟩
theorem asks_st {w : World} {B P : Nat → Prop} {x d N : Nat} {S : SAbs} (h : PI w B P x S N d S) (hN : N + 3 ≤ 8388608) {kind kk : Int} {row : List V} {A9 : Option Addr} {n9 : Nat} (c9 : Nat) (ha : ArgR w A9 n9 row) (hA : ∀ a, A9 = some a → row ≠ [] → ¬ B a.block ∧ ¬ P a.block) :
    Calls Tryz.prog 35 #[.pointer (some ⟨x, 0, none⟩), .pointer (some ⟨d, 0, none⟩), .agg #[.int .i64 kind, .int .i64 kk, .slice A9 n9 c9]] w fun e w' => e = .returned (.bool true) ∧ PS w B P w' x S (N + 3) d := by
  by_cases hk3 : kind = 3
  · exact asks34 h hN c9 ha hA (.inl hk3)
  · by_cases hk4 : kind = 4
    · exact asks34 h hN c9 ha hA (.inr hk4)
    · exact asks567 h hN c9 ha hA hk3 hk4
end Go.Proofs.YtifloafhpeeepaaGreat

namespace Go.Proofs.YtifloafhpeeepaaGreat
open Go.RowKit

theorem PS.then {w w1 w2 : World} {B P B1 P1 : Nat → Prop} {x d N : Nat} {S : SAbs} (h : PS w1 B1 P1 w2 x S N d) (hb : ∀ b, B1 b → B b ∨ w.heap.size ≤ b) (hp : ∀ b, P1 b → P b ∨ w.heap.size ≤ b) (hc : Chg (fun b => B b ∨ P b) w w1) : PS w B P w2 x S N d := by
  obtain ⟨B2, P2, k1, k2, k3, k4⟩ := h
  refine ⟨B2, P2, k1, fun b hb2 => (k2 b hb2).elim (hb b) fun h => .inr (Nat.le_trans hc.size h), fun b hb2 => (k3 b hb2).elim (hp b) fun h => .inr (Nat.le_trans hc.size h), hc.trans k4 fun g hg hl => ?_⟩
  exact hg.elim (fun h => .inl ((hb g h).resolve_right (by omega))) fun h => .inr ((hp g h).resolve_right (by omega))
theorem DP.gsl {w : World} {P : Nat → Prop} {d : Nat} {S : SAbs} (h : DP w P d S) : ∃ AG cG, w.cell? ⟨d, 2, none⟩ = some (.slice AG S.gs.length cG) := by
  obtain ⟨AG, cG, AR, cR, Ao, no, co, hI⟩ := h
  exact ⟨AG, cG, hI.blk.cell 2⟩
theorem arg_nil (w : World) : ArgR w none 0 [] := ⟨RowAt.nil _ _, by simp, by simp [smallR], by simp [wfR]⟩
set_option maxRecDepth 100000 in
set_option maxHeartbeats 2000000 in
theorem same_st {w : World} {B P : Nat → Prop} {x d N : Nat} {S : SAbs} (h : PI w B P x S N d S) (hN : N + 800000 ≤ 8388608) :
    Calls Tryz.prog 36 #[.pointer (some ⟨x, 0, none⟩), .pointer (some ⟨d, 0, none⟩)] w fun e w' => e = .returned (.bool true) ∧ PS w B P w' x S (N + 800000) d := by
  have HS := hide h.s.sok
  have HAK := hide (asks_st h (by omega) (kind := 4) (kk := 0) 0 (arg_nil w) (fun a ha _ => by cases ha))
  obtain ⟨gl, hgl⟩ : ∃ gl, S.gs.length = gl := ⟨_, rfl⟩
  have HGL := hide hgl
  have hg4 : gl ≤ 4 := by rw [← hgl]; exact h.s.sok.gsl
  clear h hgl
  go_enter Tryz.func36, Tryz.ntmps36
  go_wp2_with ((with_reducible refine HAK.out.mono ?_); rintro e w1 ⟨rfl, hs1⟩; obtain ⟨AG, cG, d2⟩ : ∃ AG cG, w1.cell? ⟨d, 2, none⟩ = some (.slice AG gl cG) := (by obtain ⟨_, _, k1, _⟩ := hs1; rw [← HGL.out]; exact k1.d.gsl); have S1 := hide hs1; clear hs1)
  clear d2 HAK
  go_loopw [5, 20] (fun _ s20 w' => ∃ (i N' : Nat), i ≤ gl ∧ s20 = .int .i64 i ∧ Hid (PS w B P w' x S N' d) ∧ Hid (N' ≤ N + 3 + i * 196620)) (fun _ s20 _ => gl - (intOf s20).toNat)
  case atStart => exact ⟨0, N + 3, by omega, rfl, S1, hide (by omega)⟩
  case round =>
    clear S1
    obtain ⟨i, N1, hil, rfl, hP, hN1⟩ := hrel
    by_cases hi : i < gl
    · obtain ⟨g, hg⟩ : ∃ g, S.gs[i]? = some g := ⟨_, List.getElem?_eq_getElem (by have := HGL.out; omega)⟩
      obtain ⟨B1, P1, k1, hb1, hp1, hc1⟩ := hP.out
      have HKY := hide (dkeys k1.d HS.out hg)
      have K1 := hide k1; have HB1 := hide hb1; have HP1 := hide hp1; have HC1 := hide hc1
      obtain ⟨hk65, hkg⟩ := keysS_small HS.out hg
      have HKG := hide hkg; have HG := hide hg
      obtain ⟨K, hK⟩ : ∃ K, keysS S g = K := ⟨_, rfl⟩
      rw [hK] at HKY HKG hk65
      have hil2 : (i : Int) < (gl : Int) := by omega
      clear k1 hb1 hp1 hc1 hkg hg hK hP
      go_upto_region 7 with ((with_reducible refine HKY.out.mono ?_); rintro e w2 ⟨A2, c2, rfl, h2, x2⟩; have M2 := hide h2; have X2 := hide x2; clear h2 x2)
      have K2 := hide (K1.out.ext X2.out)
      have T2 := hide (show Told w2 (fun b => wr.heap.size ≤ b ∧ b < w2.heap.size) A2 K.length c2 K from M2.out.told fun b h1 h2 => ⟨h1, h2⟩)
      have HQ2 := hide (show ∀ b, (B1 b ∨ P1 b) → ¬ (wr.heap.size ≤ b ∧ b < w2.heap.size) from fun b hb h => hb.elim (fun h9 => by have := K1.out.bl b h9; omega) fun h9 => by have := K1.out.pl b h9; omega)
      have HAS := hide (asks_st K2.out (by have := hN1.out; omega) (kind := 7) (kk := (i : Int)) 0 (arg_nil w2) (fun a ha _ => by cases ha))
      have HC2 := hide (HC1.out.trans' (Chg.of X2.out))
      clear HKY M2 X2 K1 HC1
      go_wp2_with fail
      refine HAS.out.mono ?_
      rintro e w3 ⟨rfl, hs3⟩
      have S3 := hide hs3
      clear hs3 HAS
      go_wp2_with fail
      go_loopw [37] (fun s37 w' => ∃ (j N' : Nat), j ≤ K.length ∧ s37 = .int .i64 j ∧ Hid (PS w2 B1 P1 w' x S N' d) ∧ Hid (N' ≤ N1 + 3 + j * 3)) (fun s37 _ => K.length - (intOf s37).toNat)
      case atStart => exact ⟨0, N1 + 3, by omega, rfl, S3, hide (by omega)⟩
      case round =>
        clear S3
        obtain ⟨j, N2, hjl, rfl, hP2, hN2⟩ := hrel
        by_cases hj : j < K.length
        · obtain ⟨key, hkey⟩ : ∃ key, K[j]? = some key := ⟨_, List.getElem?_eq_getElem hj⟩
          have hgood := HKG.out key (List.mem_of_getElem? hkey)
          obtain ⟨B3, P3, k3, hb3, hp3, hc3⟩ := hP2.out
          have T3 := hide (T2.out.aside HQ2.out hc3)
          obtain ⟨b, off, A9, c9, rfl, kc, hap⟩ := T3.out.argP hkey (key_small hgood) hgood.small hgood.wf
          have HGR := hide (group_any k3 (by have := hN2.out; have := hN1.out; omega) (i : Int) c9 hap.1 (fun a ha _ => by
            have h1 := hap.2 a ha
            exact ⟨fun hb => (hb3 _ hb).elim (fun h9 => HQ2.out _ (.inl h9) h1) fun h9 => by omega, fun hb => (hp3 _ hb).elim (fun h9 => HQ2.out _ (.inr h9) h1) fun h9 => by omega⟩))
          have HTH := hide (fun (w4 : World) (h4 : PS wr B3 P3 w4 x S (N2 + 3) d) => h4.then hb3 hp3 hc3)
          have hjl2 : (j : Int) < (K.length : Int) := by omega
          clear hkey hgood k3 hb3 hp3 hc3 hap hP2 T3
          go_wp2_with fail
          refine HGR.out.mono ?_
          rintro e w4 ⟨rfl, hs4⟩
          have S4 := hide (HTH.out w4 hs4)
          clear hs4 HGR HTH
          go_wp2_with fail
          go_roundw
          case rel => exact ⟨j + 1, N2 + 3, by omega, by go_num, S4, hide (by have := hN2.out; omega)⟩
          case measure => simp [intOf]; omega
        · obtain rfl : j = K.length := by omega
          have S5 := hide (hP2.out.then HB1.out HP1.out HC2.out)
          have hN5 := hide (show N2 ≤ N + 3 + (i + 1) * 196620 by have := hN2.out; have := hN1.out; omega)
          clear hP2
          go_wp2_with fail
          go_roundw
          case rel => exact ⟨i + 1, N2, by omega, by go_num, S5, hN5⟩
          case measure => simp [intOf]; omega
    · obtain rfl : i = gl := by omega
      have HFI := hide (hP.out.more (show N1 ≤ N + 800000 by have := hN1.out; omega))
      clear hP
      go_wp2_with fail
      go_ret
      exact ⟨rfl, HFI.out⟩
end Go.Proofs.YtifloafhpeeepaaGreat

namespace Go.Proofs.YtifloafhpeeepaaGreat
open Go.RowKit

theorem ext_chg {w w1 w' : World} {C : Nat → Prop} (h : Ext w w1) (hc : Chg C w1 w') (hC : ∀ b, C b → w.heap.size ≤ b) : Ext w w' :=
  ⟨hc.os.trans (Below.os h), hc.tape.trans (Below.tape h), hc.output.trans (Below.output h), Nat.le_trans h.size hc.size, fun k hk => (hc.block k (Nat.lt_of_lt_of_le hk h.size) fun hs => by have := hC k hs; omega).trans (h.block hk)⟩
theorem row_lt {w : World} {A : Option Addr} {n : Nat} {r : List V} (h : RowAt w A n r) : ∀ a, A = some a → r ≠ [] → a.block < w.heap.size := fun a ha hr => by
  have hl := h.len
  exact h.2.lt' (by omega) (by have := List.length_pos_iff.2 hr; omega) a ha
/-- two stores made, side by side -/
theorem made_pi {w : World} (most : Int) {A : Option Addr} {n : Nat} (c : Nat) {gs : List (List Int)} (hg : NumsAt w A n gs) (hn : n ≤ 1048576) (hl : ∀ g ∈ gs, g.length ≤ 1048576) :
    Calls Tryz.prog 33 #[.int .i64 3, .int .i64 most, .slice A n c] w fun e w' => Ext w w' ∧ ((goodS 3 most gs ≠ 0 ∧ e = .returned (.tuple #[.pointer none, .pointer none, .bool true])) ∨
      (goodS 3 most gs = 0 ∧ ∃ x d B P S, e = .returned (.tuple #[.pointer (some ⟨x, 0, none⟩), .pointer (some ⟨d, 0, none⟩), .bool true]) ∧ PI w' B P x S 1 d S ∧ ∀ b, B b ∨ P b → w.heap.size ≤ b)) := by
  refine (made_st 3 most c hg hn hl).mono ?_
  rintro e w' ⟨h1, h | ⟨hz, x, d, B, w9, h2, h3, h4, h5, h6⟩⟩
  · exact ⟨h1, .inl h⟩
  · have hdp := h6.dp hz hg.1
    have h7 : Ext w9 w' := by
      obtain ⟨A', c', k1, k2, k3, k4⟩ := h6
      exact k3
    have h8 := h7.size
    exact ⟨h1, .inr ⟨hz, x, d, B, _, _, h2, ⟨h3, hdp, fun b hb hp => by have := (h4 b hb).2; omega, fun b hb => by have := (h4 b hb).2; omega, fun b hb => hb.2, fun o ho => by cases ho⟩, fun b hb => hb.elim (fun h => (h4 b h).1) fun h => Nat.le_trans h5 h.1⟩⟩
set_option maxRecDepth 100000 in
set_option maxHeartbeats 4000000 in
theorem law_plays (gs : List (List Int)) (Ag : Option Addr) (m d0 : Nat) (most : Int) (ops : List OpS) (Ao : Option Addr) (l co : Nat) (w : World) (hg : NumsAt w Ag m gs) (hm : m ≤ 1048576) (hgl : ∀ g ∈ gs, g.length ≤ 1048576) (_hx : -9223372036854775808 ≤ most ∧ most ≤ 9223372036854775807)
    (ho : LAt ROp 3 w Ao l ops) (_hlc : l ≤ co) (hl : l ≤ 1048576) (hor : ∀ o ∈ ops, o.row.length ≤ 1048576 ∧ smallR o.row) (howf : ∀ o ∈ ops, wfR o.row) :
    Calls Tryz.prog 6 #[.slice Ag m d0, .int .i64 most, .slice Ao l co] w fun e w' => e = .returned (.bool true) ∧ Ext w w' := by
  have hM := made_pi most d0 hg hm hgl
  have HO := hide ho; have HOR := hide hor; have HOW := hide howf
  clear hg hm hgl ho hor howf
  by_cases hz : goodS 3 most gs = 0
  · have HM := hide (hM.mono (R' := fun e w' => ∃ x d B P S, e = .returned (.tuple #[.pointer (some ⟨x, 0, none⟩), .pointer (some ⟨d, 0, none⟩), .bool true]) ∧ Ext w w' ∧ PI w' B P x S 1 d S ∧ ∀ b, B b ∨ P b → w.heap.size ≤ b) fun e w' h => by
      rcases h with ⟨h1, ⟨h2, -⟩ | ⟨-, x, d, B, P, S, h3, h4, h5⟩⟩
      · exact absurd hz h2
      · exact ⟨x, d, B, P, S, h3, h1, h4, h5⟩)
    clear hM hz
    go_enter Tryz.func6, Tryz.ntmps6
    go_wp2_with ((with_reducible refine HM.out.mono ?_); rintro e w1 ⟨x, d, B, P, S0, rfl, x1, hi, hb⟩; have X1 := hide x1; have HI := hide hi; have HB := hide hb; clear x1 hi hb)
    have HP0 := hide (PS.refl HI.out)
    clear HM HI
    go_loopw [31] (fun s31 w' => ∃ (i N : Nat) (S : SAbs), i ≤ l ∧ s31 = .int .i64 i ∧ Hid (PS w1 B P w' x S N d) ∧ Hid (N ≤ 1 + 5 * i)) (fun s31 _ => l - (intOf s31).toNat)
    case atStart => exact ⟨0, 1, S0, by omega, rfl, HP0, hide (by omega)⟩
    case round =>
      clear HP0
      obtain ⟨i, N, S, hil, rfl, hP, hN⟩ := hrel
      obtain ⟨B1, P1, k1, hb1, hp1, hc1⟩ := hP.out
      have hnew1 := hide (show ∀ b, B1 b ∨ P1 b → w.heap.size ≤ b from fun b hb => by
        have h1 := X1.out.size
        rcases hb with hb | hb
        · rcases hb1 b hb with h | h
          · exact HB.out b (.inl h)
          · omega
        · rcases hp1 b hb with h | h
          · exact HB.out b (.inr h)
          · omega)
      have hE := hide (ext_chg X1.out hc1 HB.out)
      by_cases hi : i < l
      · obtain ⟨b, off, o, A9, c9, rfl, hoq, hbl, c0, c1, c2, hrow⟩ := HO.out.op hi
        have c0 := hE.out.cell c0; have c1 := hE.out.cell c1; have c2 := hE.out.cell c2
        have hom := List.mem_of_getElem? hoq
        have hor := HOR.out o hom; have how := HOW.out o hom
        obtain ⟨kind, kk, row⟩ := o
        dsimp only at c0 c1 c2 hrow hor how
        have hE1 := Ext.alloc wr (.cells #[.int .i64 kind, .int .i64 kk, .slice A9 row.length c9] 62)
        have OB := hide (Blk.new wr 62 #[.int .i64 kind, .int .i64 kk, .slice A9 row.length c9])
        have HARG := hide (show ArgR (wr.alloc (.cells #[.int .i64 kind, .int .i64 kk, .slice A9 row.length c9] 62)) A9 row.length row from ⟨(hrow.ext hE.out).ext hE1, hor.1, hor.2, how⟩)
        have HFAR := hide (row_lt hrow)
        have K2 := hide (k1.ext hE1)
        have HTH := hide (fun (w4 : World) (S4 : SAbs) (N4 : Nat) (h4 : PS (wr.alloc (.cells #[.int .i64 kind, .int .i64 kk, .slice A9 row.length c9] 62)) B1 P1 w4 x S4 N4 d) => h4.then hb1 hp1 (hc1.trans' (Chg.of hE1)))
        have HNO := hide (show ¬ (B1 wr.heap.size ∨ P1 wr.heap.size) from fun h => h.elim (fun h => by have := k1.bl _ h; omega) fun h => by have := k1.pl _ h; omega)
        have HFA2 := hide (show ∀ a, A9 = some a → row ≠ [] → ¬ B1 a.block ∧ ¬ P1 a.block from fun a ha hr => by
          have h1 := HFAR.out a ha hr
          exact ⟨fun h => by have := hnew1.out _ (.inl h); omega, fun h => by have := hnew1.out _ (.inr h); omega⟩)
        have HSZ := hide (show w.heap.size ≤ (wr.alloc (.cells #[.int .i64 kind, .int .i64 kk, .slice A9 row.length c9] 62)).heap.size from Nat.le_trans hE.out.size hE1.size)
        have HCH := hide (changes_st K2.out (by have := hN.out; omega) (kind := kind) (kk := kk) c9 HARG.out HFA2.out)
        obtain ⟨S', hS'⟩ : ∃ S', opS S ⟨kind, kk, row⟩ = S' := ⟨_, rfl⟩
        rw [hS'] at HCH
        have hil2 : (i : Int) < (l : Int) := by omega
        clear hoq hom hor how hrow hE1 hP k1 hb1 hp1 hc1 hS'
        go_upto_region 7 with fail
        generalize wr.alloc (.cells #[.int .i64 kind, .int .i64 kk, .slice A9 row.length c9] 62) = w2 at *
        generalize wr.heap.size = ob at *
        have q0 : w2.cell? ⟨ob, 0, none⟩ = some (.int .i64 kind) := OB.out.cell 0
        have q1 : w2.cell? ⟨ob, 1, none⟩ = some (.int .i64 kk) := OB.out.cell 1
        have q2 : w2.cell? ⟨ob, 2, none⟩ = some (.slice A9 row.length c9) := OB.out.cell 2
        clear c0 c1 c2
        go_wp2_with ((with_reducible refine HCH.out.mono ?_); rintro e w4 ⟨rfl, hs4⟩; have S4 := hide hs4; obtain ⟨B4, P4, k4, hb4, hp4, hc4⟩ := hs4; have OB4 := hide (hc4.blk OB.out HNO.out); have HARG4 := hide (HARG.out.chg2 (fun a ha hr h => h.elim (HFA2.out a ha hr).1 (HFA2.out a ha hr).2) hc4); have K4 := hide k4; have H4 := hide (And.intro hb4 (And.intro hp4 hc4)); clear k4 hb4 hp4 hc4 HCH q0 q1 q2; have q0 : w4.cell? ⟨ob, 0, none⟩ = some (.int .i64 kind) := OB4.out.cell 0; have q1 : w4.cell? ⟨ob, 1, none⟩ = some (.int .i64 kk) := OB4.out.cell 1; have q2 : w4.cell? ⟨ob, 2, none⟩ = some (.slice A9 row.length c9) := OB4.out.cell 2)
        have HAK := hide (asks_st K4.out (by have := hN.out; omega) (kind := kind) (kk := kk) c9 HARG4.out (fun a ha hr => by
          have h1 := HFAR.out a ha hr; have h2 := HSZ.out
          exact ⟨fun h => (H4.out.1 _ h).elim (HFA2.out a ha hr).1 fun h9 => by omega, fun h => (H4.out.2.1 _ h).elim (HFA2.out a ha hr).2 fun h9 => by omega⟩))
        refine HAK.out.mono ?_
        rintro e w5 ⟨rfl, hs5⟩
        have S5 := hide (HTH.out _ _ _ (hs5.then H4.out.1 H4.out.2.1 H4.out.2.2))
        clear hs5 HAK q0 q1 q2 S4 HTH
        go_wp2_with fail
        go_roundw
        case rel => exact ⟨i + 1, N + 2 + 3, S', by omega, by go_num, S5, hide (by have := hN.out; omega)⟩
        case measure => simp [intOf]; omega
      · obtain rfl : i = l := by omega
        have HSM := hide (same_st k1 (by have := hN.out; omega))
        have HTH := hide (fun (w4 : World) (N4 : Nat) (h4 : PS wr B1 P1 w4 x S N4 d) => show Ext w w4 from by
          obtain ⟨B5, P5, -, -, -, h5⟩ := h4
          exact ext_chg hE.out h5 hnew1.out)
        clear k1 hb1 hp1 hc1 hP
        go_wp2_with fail
        refine HSM.out.mono ?_
        rintro e w4 ⟨rfl, hs4⟩
        have X4 := hide (HTH.out _ _ hs4)
        clear hs4 HSM HTH
        go_wp2_with fail
        refine (awake_st _).mono ?_
        rintro e w5 ⟨rfl, x5⟩
        have X5 := hide (X4.out.trans x5)
        clear x5
        go_wp2_with fail
        go_ret
        exact ⟨rfl, X5.out⟩
  · have HM := hide (hM.mono (R' := fun e w' => e = .returned (.tuple #[.pointer none, .pointer none, .bool true]) ∧ Ext w w') fun e w' h => by
      rcases h with ⟨h1, ⟨-, h2⟩ | ⟨h2, -⟩⟩
      · exact ⟨h2, h1⟩
      · exact absurd h2 hz)
    clear hM hz
    go_enter Tryz.func6, Tryz.ntmps6
    go_wp2_with ((with_reducible refine HM.out.mono ?_); rintro e w1 ⟨rfl, x1⟩; have X1 := hide x1; clear x1)
    refine (awake_st _).mono ?_
    rintro e w4 ⟨rfl, x4⟩
    have X4 := hide (X1.out.trans x4)
    clear x4
    go_wp2_with fail
    go_ret
    exact ⟨rfl, X4.out⟩
end Go.Proofs.YtifloafhpeeepaaGreat
