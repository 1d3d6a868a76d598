/-
  node: Begin.
  node: Commit and Rollback.
  node: Support and Stored.
  A node beside things that are told: what stands in P is let be.
-/
import Derived.Test.YtahdiiaadjdmcaaGreatNgG
import Derived.Test.YtahdiiaadjdmcaaGreatGaD
namespace Go.Proofs.YtahdiiaadjdmcaaGreat
open Go.RowKit

/-- so many marks are set, but the live rows' first -/
def begT (K : NK) (a : NAbs) : Nat → Nat → SAbs
  | 0 => updT (tof K a) 1 (beginS (S1 K a)).1
  | i + 1 => updT (begT K a i) (i + 2) (beginS (tof K a (i + 2))).1
theorem beg_at (K : NK) (a : NAbs) {i : Nat} (hi : i < 2) : begT K a i (i + 2) = tof K a (i + 2) := by
  match i, hi with
  | 0, _ => rfl
  | 1, _ => rfl
theorem beg_all {K : NK} {a : NAbs} (ho : a.old = none) {L : Nat} (hL : L = if K.kind = 3 then 2 else 0) : begT K a L 1 = S1 K ⟨a.now, some a.now⟩ ∧ (K.kind = 3 → begT K a L 2 = S2 K ⟨a.now, some a.now⟩) ∧ (K.kind = 3 → begT K a L 3 = S3 K ⟨a.now, some a.now⟩) := by
  have e : ∀ S : SAbs, S.old = none → (beginS S).1 = { S with old := some S.rows } := fun S h => by unfold beginS; rw [h]
  have h1 : (beginS (S1 K a)).1 = S1 K ⟨a.now, some a.now⟩ := by rw [e _ (by unfold S1; rw [ho]; rfl)]; rfl
  have h2 : (beginS (S2 K a)).1 = S2 K ⟨a.now, some a.now⟩ := by rw [e _ (by unfold S2; rw [ho]; rfl)]; rfl
  have h3 : (beginS (S3 K a)).1 = S3 K ⟨a.now, some a.now⟩ := by rw [e _ (by unfold S3; rw [ho]; rfl)]; rfl
  by_cases hk : K.kind = 3
  · rw [if_pos hk] at hL
    subst hL
    exact ⟨by simp [begT, updT, h1], fun _ => by simp [begT, updT, tof, h2], fun _ => by simp [begT, updT, tof, h3]⟩
  · rw [if_neg hk] at hL
    subst hL
    exact ⟨by simp [begT, updT, h1], fun h => absurd h hk, fun h => absurd h hk⟩
theorem oth_len (K : NK) (v : NdV) : (othersN K v).length = if K.kind = 3 then 2 else 0 := by unfold othersN; split <;> rfl
theorem oth_at {K : NK} {v : NdV} {i x : Nat} (h : (othersN K v)[i]? = some x) : x = ptrX v (i + 2) ∧ i < 2 ∧ (K.kind = 3 ∧ (i + 2 = 2 ∨ i + 2 = 3)) := by
  unfold othersN at h
  by_cases hk : K.kind = 3
  · rw [if_pos hk] at h
    match i, h with
    | 0, h => exact ⟨by simpa [ptrX] using h.symm, by decide, hk, .inl rfl⟩
    | 1, h => exact ⟨by simpa [ptrX] using h.symm, by decide, hk, .inr rfl⟩
    | i + 2, h => simp at h
  · rw [if_neg hk] at h; simp at h
theorem sts_slice {b : Nat} {xs : List Nat} {u : Value} {w : World} (h : StsIs b xs u w) : ∃ A c, u = .slice A xs.length c ∧ ∀ (i x : Nat), xs[i]? = some x → ∃ g, b ≤ g ∧ A = some ⟨g, 0, none⟩ ∧ Blk w g 88 (ptrC xs).toArray := by
  rcases h with ⟨rfl, rfl⟩ | ⟨h, g, hg, rfl, hb⟩
  · exact ⟨none, 0, rfl, fun i x hx => by simp at hx⟩
  · exact ⟨_, _, rfl, fun i x hx => ⟨g, hg, rfl, hb⟩⟩
theorem NdQ.openS {w : World} {lab : Lab} {K : NK} {v : NdV} {a : NAbs} {N : Nat} {S : SAbs} (h : NdQ w lab K v a S N) : NdO w lab K v a (updT (tof K a) 1 S) N := ⟨h.r.lt, h.r.part 0, h.s, h.r.part 2, h.r.part 3, h.r.part 4, h.r.part 5⟩
theorem tof_old {K : NK} {a : NAbs} (ho : a.old = none) (j : Nat) : (tof K a j).old = none := by
  unfold tof
  split
  · unfold S1; rw [ho]; rfl
  · split
    · unfold S2; rw [ho]; rfl
    · unfold S3; rw [ho]; rfl
theorem beg_zero {S : SAbs} (h : S.old = none) : (beginS S).2 = 0 := by unfold beginS; rw [h]
section
variable {w : World} {lab : Lab} {K : NK} {v : NdV} {a : NAbs} {N : Nat}
set_option maxRecDepth 100000 in
theorem beg_marked (h : NdQ w lab K v a (S1 K a) N) {o : NSt} (ho : a.old = some o) :
    Calls Tryz.prog 26 #[.pointer (some ⟨v.n, 0, none⟩)] w fun e w' => e = .returned (.int .i64 64) ∧ NdT w lab K v a (S1 K a) (N + 1) w' := by
  have HB := begin_st h.s
  have hb : beginS (S1 K a) = (S1 K a, 64) := by unfold beginS S1; rw [ho]; rfl
  rw [hb] at HB
  have HB := hide HB
  obtain ⟨n0, -⟩ := h.r.kind
  have a6 := h.r.rows6
  have HQ := hide h
  clear h hb ho
  go_enter Tryz.func26, Tryz.ntmps26
  go_wp2_with ((with_reducible refine HB.out.mono ?_); rintro e w2 ⟨rfl, h2⟩; have T2 := hide (HQ.out.live (Nat.le_add_right N 1) h2); clear h2)
  go_ret
  exact ⟨rfl, T2.out⟩
set_option maxRecDepth 100000 in
set_option maxHeartbeats 2000000 in
theorem beg_new (h : NdQ w lab K v a (S1 K a) N) (hK : NKOk K) (ho : a.old = none) :
    Calls Tryz.prog 26 #[.pointer (some ⟨v.n, 0, none⟩)] w fun e w' => e = .returned (.int .i64 0) ∧ ∃ lab' v', v'.n = v.n ∧ NdQ w' lab' K v' ⟨a.now, some a.now⟩ (S1 K ⟨a.now, some a.now⟩) (N + 3) ∧ Step w lab w' lab' := by
  have HB := begin_st h.s
  have hb : (beginS (S1 K a)).2 = 0 := by unfold beginS S1; rw [ho]; rfl
  rw [hb] at HB
  have HB := hide HB
  have hbs := hide (fun j => beg_zero (tof_old (K := K) ho j))
  obtain ⟨n0, -⟩ := h.r.kind
  have a6 := h.r.rows6
  have HQ := hide h; have HALL := hide (beg_all (K := K) ho (oth_len K v)); have HKK := hide hK
  have hL2 := others_len K v
  have hta := ta_trim hK
  clear h hb ho
  go_enter Tryz.func26, Tryz.ntmps26
  go_upto_region 4 with ((with_reducible refine HB.out.mono ?_); rintro e w1 ⟨rfl, h2⟩; have T2 := hide (HQ.out.live (Nat.le_add_right N 1) h2); clear h2)
  obtain ⟨lab1, q1, st1⟩ := T2.out
  have Q1 := hide q1; have ST1 := hide st1; have HD := hide q1.dom
  obtain ⟨f, hm, hc⟩ := stores_any q1.r hK
  have he := (hc w1 (Ext.refl w1)).1 #[.pointer (some ⟨v.k, 0, none⟩)] w1
  have HS := hide (hc w1 (Ext.refl w1)).2
  have n1 := q1.r.kind.2.1
  clear T2 q1 st1 hc n0 a6 hK
  go_upto_region 5 with ((with_reducible refine HS.out.mono ?_); rintro e w2 ⟨u, rfl, hsts, hx⟩; obtain ⟨A, c, rfl, hcell⟩ := sts_slice hsts; have HC := hide hcell; have X2 := hide hx; clear hx hsts hcell)
  have hstart := hide (Q1.out.openS.ext X2.out)
  clear HS hm he n1
  go_loopw [25] (fun s25 w' => ∃ (i : Nat) (lab4 : Lab), i ≤ (othersN K v).length ∧ s25 = .int .i64 i ∧ Hid (NdO w' lab4 K v a (begT K a i) (N + 1 + i)) ∧ Hid (Step w2 lab1 w' lab4)) (fun s25 _ => (othersN K v).length - (intOf s25).toNat)
  case atStart => exact ⟨0, lab1, by omega, rfl, hstart.out, step_refl _ _⟩
  case round =>
    obtain ⟨i, lab4, hi, rfl, hQ, hSt⟩ := hrel
    by_cases hil : i < (othersN K v).length
    · obtain ⟨x, hx⟩ : ∃ x, (othersN K v)[i]? = some x := ⟨_, List.getElem?_eq_getElem hil⟩
      have hix := oth_at hx
      obtain ⟨g, hg, hA, hb⟩ := HC.out i x hx
      subst hA
      have hcx : (ptrC (othersN K v))[i]? = some (.pointer (some ⟨x, 0, none⟩)) := by unfold ptrC; rw [List.getElem?_map, hx]; rfl
      have hb4 := hSt.out.2.blk hb fun hd => by have h2 := HD.out g hd; omega
      have e0 := hb4.cell i
      rw [List.getElem?_toArray, hcx] at e0
      have hst := hQ.out.sti (.inr hix.2.2)
      rw [beg_at K a hix.2.1] at hst
      have HB2 := begin_st hst
      rw [hbs.out (i + 2), ← hix.1] at HB2
      have HB2 := hide HB2
      have HIX := hide hix
      clear hx hcx hb hb4 hst hix
      go_wp2_with ((with_reducible refine HB2.out.mono ?_); rintro e w4 ⟨rfl, hs⟩; have S4 := hide hs; clear hs)
      go_roundw
      case rel =>
        obtain ⟨lab5, q5, st5⟩ := hQ.out.call (.inr HIX.out.2.2) (Nat.le_succ (N + 1 + i)) (HIX.out.1 ▸ S4.out)
        exact ⟨i + 1, lab5, by omega, by go_num, q5, step_on hSt.out st5⟩
      case measure => simp [intOf]; omega
    · obtain rfl : i = (othersN K v).length := by omega
      obtain ⟨t1, t2, t3⟩ := HALL.out
      have n0 : wr.cell? ⟨v.n, 1, none⟩ = some (.iface (workT K) (ptr v.k)) := hQ.out.p0.1.1.cell 1
      have HN2 := hide (step_on ST1.out (step_on (step_ext X2.out) hSt.out))
      by_cases hk : K.kind = 2
      · have hta2 : ∀ v w, (Instr.typeAssert (.iface (workT K) v) 46 105 true).run Tryz.prog w = .ok (.tuple #[v, .bool true]) w := fun v w => by rw [ta_trim HKK.out v w, if_pos hk, decide_eq_true hk]
        have hb := hQ.out.p0.2.2.1.1
        rw [(workC_trim hk v).2] at hb
        have k1 : wr.cell? ⟨v.k, 1, none⟩ = some (.map (some v.m1)) := hb.cell 1
        have HBK := hide hb
        have HP4 := hide (hQ.out.p4 hk)
        obtain ⟨p, hp2, -⟩ := hQ.out.p5 hk
        have HP2 := hide hp2
        have hcl : ∃ n σ, n ≤ N + 1 + (othersN K v).length ∧ Hid (MapS wr v.m1 n σ) ∧ Hid (∀ own, Fit K.width own → σ (strB (pk own)) = if cntL a.now.ons a.now.cnt own = 0 then none else some (.int .i64 (cntL a.now.ons a.now.cnt own : Nat))) := HP4.out.2
        obtain ⟨n, σ, hn, hm, hs⟩ := hcl
        have HCL := hide (clone_map hm.out)
        clear hta hb hp2
        go_wp2_with ((with_reducible refine HCL.out.mono ?_); rintro e w5 ⟨g, rfl, hg1, hg2, hm5, hx5⟩; have M5 := hide hm5; have X5 := hide hx5; have f2 := (HBK.out.ext hx5).frozen 2; have c2 := (HBK.out.ext hx5).cell 2; clear hm5 hx5)
        go_ret
        have hk5 := HBK.out.ext X5.out
        have e2 : (workC K v).setIfInBounds 2 (.map (some g)) = workC K { v with m1 := v.m1, m2 := .map (some g) } := by rw [(workC_trim hk v).2, (workC_trim hk _).2]; rfl
        obtain ⟨lab6, q6, d6, c6⟩ := (hQ.out.ext X5.out).trim hk (a' := ⟨a.now, some a.now⟩) (g := g) (j := 5) (i := 2) (m := v.m1) (p2 := some g) (q := p) (u := .map (some g)) hg2
          (fun k hk2 => by have := HN2.out; have := hQ.out.lt g k hk2; omega) (.inr rfl) (by rw [← HP2.out]; exact hk5.cell 2) e2 t1
          (fun w' B hf hB _ => ⟨hB _ HP4.out.1, n, σ, hn, (hm.out.ext X5.out).block (hf _ ((hm.out.ext X5.out).ne_blk hk5)), hs.out⟩)
          (fun w' B hf hB o ho => by
            obtain rfl : a.now = o := by injection ho
            exact ⟨g, rfl, hB rfl, n, σ, hn, M5.out.block (hf _ (M5.out.ne_blk hk5)), hs.out⟩)
        refine ⟨rfl, lab6, { v with m1 := v.m1, m2 := .map (some g) }, rfl, q6.more (by omega), step_on HN2.out ⟨fun b hb => (d6 b hb).imp id fun e => by omega, ?_⟩⟩
        exact (Chg.of X5.out).trans' c6
      · have hta2 : ∀ v w, (Instr.typeAssert (.iface (workT K) v) 46 105 true).run Tryz.prog w = .ok (.tuple #[.pointer none, .bool false]) w := fun v w => by rw [ta_trim HKK.out v w, if_neg hk, decide_eq_false hk]
        clear hta
        go_wp2_with fail
        go_ret
        exact ⟨rfl, lab4, v, rfl, (hQ.out.more (by omega)).shut t1 t2 t3 (fun h => absurd h hk) (fun h => absurd h hk), HN2.out⟩
end
end Go.Proofs.YtahdiiaadjdmcaaGreat

namespace Go.Proofs.YtahdiiaadjdmcaaGreat
open Go.RowKit

theorem roll_tof (K : NK) (a : NAbs) : (rollS (S1 K a)).1 = S1 K (rollN a).1 ∧ (rollS (S2 K a)).1 = S2 K (rollN a).1 ∧ (rollS (S3 K a)).1 = S3 K (rollN a).1 := by
  obtain ⟨n, o⟩ := a
  cases o <;> exact ⟨rfl, rfl, rfl⟩
section
variable {w : World} {lab : Lab} {K : NK} {v : NdV} {a : NAbs} {N : Nat}
set_option maxRecDepth 100000 in
set_option maxHeartbeats 1000000 in
theorem node_rollback (h : NdQ w lab K v a (S1 K a) N) (hK : NKOk K) (hN : N + 3 ≤ 8796093022208) :
    Calls Tryz.prog 27 #[.pointer (some ⟨v.n, 0, none⟩)] w fun e w' => e = .returned (.int .i64 (rollN a).2) ∧ ∃ lab' v', v'.n = v.n ∧ NdQ w' lab' K v' (rollN a).1 (S1 K (rollN a).1) (N + 3) ∧ Step w lab w' lab' := by
  have HE := each_roll h hK hN
  obtain ⟨c1, c2, c3⟩ := roll_tof K a
  obtain ⟨d1, d2, d3⟩ := done_all K (fun S => (rollS S).1) (tof K a)
  have T1 := hide (d1.trans c1); have T2 := hide (fun hk => (d2 hk).trans c2); have T3 := hide (fun hk => (d3 hk).trans c3)
  have HKK := hide hK
  clear h hN hK c1 c2 c3 d1 d2 d3
  cases ho : a.old with
  | none =>
    have hr : rollN a = (a, 65) := by unfold rollN; rw [ho]
    rw [ho] at HE
    rw [hr] at T1 T2 T3 ⊢
    have HE := hide HE
    clear ho hr
    have hta2 : ∀ v w, ∃ u b, (Instr.typeAssert (.iface (workT K) v) 46 105 true).run Tryz.prog w = .ok (.tuple #[u, .bool b]) w := fun v w => ⟨_, _, ta_trim HKK.out v w⟩
    obtain ⟨u, b, hb⟩ : ∃ u b, ∀ w, (Instr.typeAssert (.iface (workT K) (ptr v.k)) 46 105 true).run Tryz.prog w = .ok (.tuple #[u, .bool b]) w := ⟨_, _, fun w => ta_trim HKK.out _ w⟩
    clear hta2
    cases b <;> (
      go_enter Tryz.func27, Tryz.ntmps27
      go_wp2_with ((with_reducible refine HE.out.mono ?_); rintro e w2 ⟨rfl, lab2, q2, st2⟩; have Q2 := hide q2; have ST2 := hide st2; have n1 : w2.cell? ⟨v.n, 1, none⟩ = some (.iface (workT K) (ptr v.k)) := q2.p0.1.1.cell 1; clear q2 st2)
      go_ret
      exact ⟨rfl, lab2, v, rfl, Q2.out.shut T1.out T2.out T3.out Q2.out.p4 Q2.out.p5, ST2.out⟩)
  | some o =>
    have hr : rollN a = (⟨o, none⟩, 0) := by unfold rollN; rw [ho]
    rw [ho] at HE
    rw [hr] at T1 T2 T3 ⊢
    have HE := hide HE
    have HO := hide ho
    clear ho hr
    by_cases hk : K.kind = 2
    · have hta : ∀ v w, (Instr.typeAssert (.iface (workT K) v) 46 105 true).run Tryz.prog w = .ok (.tuple #[v, .bool true]) w := fun v w => by rw [ta_trim HKK.out v w, if_pos hk, decide_eq_true hk]
      go_enter Tryz.func27, Tryz.ntmps27
      go_upto_region 2 with ((with_reducible refine HE.out.mono ?_); rintro e w2 ⟨rfl, lab2, q2, st2⟩; have Q2 := hide q2; have ST2 := hide st2; clear q2 st2)
      have n1 : w2.cell? ⟨v.n, 1, none⟩ = some (.iface (workT K) (ptr v.k)) := Q2.out.p0.1.1.cell 1
      have hb := Q2.out.p0.2.2.1.1
      rw [(workC_trim hk v).2] at hb
      have HBK := hide hb
      have k1 : w2.cell? ⟨v.k, 1, none⟩ = some (.map (some v.m1)) := hb.cell 1
      have f1 := hb.frozen 1
      have k2 : w2.cell? ⟨v.k, 2, none⟩ = some v.m2 := hb.cell 2
      obtain ⟨p, hp, hp2⟩ := Q2.out.p5 hk
      obtain ⟨b, rfl, hcb⟩ := hp2 o HO.out
      have HP := hide hp; have HCB := hide hcb
      rw [hp] at k2
      clear hb hp hp2 hcb
      go_wp2_with fail
      go_ret
      obtain ⟨hB5, n, σ, hn, hm, hs⟩ := HCB.out
      have e2 : (workC K v).setIfInBounds 1 (.map (some b)) = workC K { v with m1 := b, m2 := .map (some b) } := by rw [(workC_trim hk v).2, (workC_trim hk _).2, HP.out]; rfl
      obtain ⟨lab6, q6, d6, c6⟩ := Q2.out.trim hk (a' := ⟨o, none⟩) (g := b) (j := 4) (i := 1) (m := b) (p2 := some b) (q := some v.m1) (u := .map (some b)) (Q2.out.lt b 5 hB5)
        (fun k hk2 => by rw [show lab2 b = some 5 from hB5] at hk2; injection hk2 with hk2; exact hk2.symm) (.inl rfl) (HBK.out.cell 1) e2 T1.out
        (fun w' B hf _ hB => ⟨hB rfl, n, σ, hn, hm.block (hf _ (hm.ne_blk HBK.out)), hs⟩)
        (fun w' B hf hB o ho => by cases ho)
      refine ⟨rfl, lab6, { v with m1 := b, m2 := .map (some b) }, rfl, q6, step_on ST2.out ⟨fun x hx => .inl ((d6 x hx).elim id fun e => e ▸ ⟨5, hB5⟩), c6⟩⟩
    · have hta : ∀ v w, (Instr.typeAssert (.iface (workT K) v) 46 105 true).run Tryz.prog w = .ok (.tuple #[.pointer none, .bool false]) w := fun v w => by rw [ta_trim HKK.out v w, if_neg hk, decide_eq_false hk]
      go_enter Tryz.func27, Tryz.ntmps27
      go_wp2_with ((with_reducible refine HE.out.mono ?_); rintro e w2 ⟨rfl, lab2, q2, st2⟩; have Q2 := hide q2; have ST2 := hide st2; have n1 : w2.cell? ⟨v.n, 1, none⟩ = some (.iface (workT K) (ptr v.k)) := q2.p0.1.1.cell 1; clear q2 st2)
      go_ret
      exact ⟨rfl, lab2, v, rfl, Q2.out.shut T1.out T2.out T3.out (fun h => absurd h hk) (fun h => absurd h hk), ST2.out⟩
end
end Go.Proofs.YtahdiiaadjdmcaaGreat

namespace Go.Proofs.YtahdiiaadjdmcaaGreat
open Go.RowKit

section
variable {w : World} {lab : Lab} {K : NK} {v : NdV} {a : NAbs} {N : Nat}
theorem sup_any (h : NdQ w lab K v a (S1 K a) N) (hK : NKOk K) (hO : NOk K a.now) (hN : N + 262145 ≤ 8796093022208) {r : List V} {A : Option Addr} {n : Nat} (c : Nat) (ha : ArgR w A n r) (hA : Aside lab.dom A) :
    ∃ f, (∀ (u : Value) (w : World), (method 359 (workT K) u "osier/node.support").run Tryz.prog w = .ok (f, u) w) ∧ Enters Tryz.prog f ∧ Calls Tryz.prog f #[.pointer (some ⟨v.k, 0, none⟩), .slice A n c] w fun e w2 => e = .returned (.int .i64 (supN K a.now r)) ∧ NdT w lab K v a (S1 K a) (N + 2) w2 := by
  unfold workT
  rcases hK.kind with hk | hk | hk
  · rw [if_neg (by omega), if_neg (by omega)]
    refine ⟨_, meth_leaf_support, enters_of Tryz.func168 (by kernel_rfl) rfl, (leaf_sup h hk hN c ha).mono ?_⟩
    rintro e w2 ⟨rfl, lab2, q, st⟩
    exact ⟨rfl, lab2, q.more (by omega), st⟩
  · rw [if_pos hk]
    refine ⟨_, meth_trim_support, enters_of Tryz.func163 (by kernel_rfl) rfl, (trim_sup h hO hk (by omega) c ha hA).mono ?_⟩
    rintro e w2 ⟨rfl, lab2, q, st⟩
    exact ⟨rfl, lab2, q.more (by omega), st⟩
  · rw [if_neg (by omega), if_pos hk]
    exact ⟨_, meth_meet_support, enters_of Tryz.func131 (by kernel_rfl) rfl, meet_sup h hk (by omega) c ha hA⟩
set_option maxRecDepth 100000 in
theorem node_support (h : NdQ w lab K v a (S1 K a) N) (hK : NKOk K) (hO : NOk K a.now) (hN : N + 262145 ≤ 8796093022208) {r : List V} {A : Option Addr} {n : Nat} (c : Nat) (ha : ArgR w A n r) (hA : Aside lab.dom A) :
    Calls Tryz.prog 21 #[.pointer (some ⟨v.n, 0, none⟩), .slice A n c] w fun e w' => e = .returned (.int .i64 (supN K a.now r)) ∧ NdT w lab K v a (S1 K a) (N + 2) w' := by
  obtain ⟨f, hm, he, hc⟩ := sup_any h hK hO hN c ha hA
  have HC := hide hc
  have n1 := h.r.kind.2.1
  have he := he #[.pointer (some ⟨v.k, 0, none⟩), .slice A n c] w
  clear h ha hA hc hK hO
  go_enter Tryz.func21, Tryz.ntmps21
  go_wp2_with ((with_reducible refine HC.out.mono ?_); rintro e w2 ⟨rfl, h2⟩; have S2 := hide h2; clear h2)
  go_ret
  exact ⟨rfl, S2.out⟩
set_option maxRecDepth 100000 in
theorem node_stored (h : NdQ w lab K v a (S1 K a) N) (hK : NKOk K) :
    Calls Tryz.prog 14 #[.pointer (some ⟨v.n, 0, none⟩)] w fun e w' => e = .returned (.int .i64 (storedN K a.now : Nat)) ∧ Ext w w' := by
  have n1 := h.r.kind.2.1
  have n0 := h.r.kind.1
  have a6 := h.r.rows6
  have H1 := lens_st h.s
  by_cases hk : K.kind = 3
  · have hta2 : ∀ v w, (Instr.typeAssert (.iface (workT K) v) 46 91 true).run Tryz.prog w = .ok (.tuple #[v, .bool true]) w := fun v w => by rw [ta_meet hK v w, if_pos hk, decide_eq_true hk]
    have H2 := lens_st (h.r.part 2 hk)
    have k1 := (h.r.meet hk).2.1
    rw [show (S2 K a).rows.length = storedN K a.now by unfold storedN; rw [if_pos hk]; rfl] at H2
    have H2 := hide H2
    clear h hK H1
    go_enter Tryz.func14, Tryz.ntmps14
    go_wp2_with ((with_reducible refine H2.out.mono ?_); rintro e w2 ⟨rfl, h2⟩; have S2 := hide h2; clear h2)
    go_ret
    exact ⟨rfl, S2.out⟩
  · have hta2 : ∀ v w, (Instr.typeAssert (.iface (workT K) v) 46 91 true).run Tryz.prog w = .ok (.tuple #[.pointer none, .bool false]) w := fun v w => by rw [ta_meet hK v w, if_neg hk, decide_eq_false hk]
    rw [show (S1 K a).rows.length = storedN K a.now by unfold storedN; rw [if_neg hk]; rfl] at H1
    have H1 := hide H1
    clear h hK
    go_enter Tryz.func14, Tryz.ntmps14
    go_wp2_with ((with_reducible refine H1.out.mono ?_); rintro e w2 ⟨rfl, h2⟩; have S2 := hide h2; clear h2)
    go_ret
    exact ⟨rfl, S2.out⟩
end
end Go.Proofs.YtahdiiaadjdmcaaGreat

namespace Go.Proofs.YtahdiiaadjdmcaaGreat
open Go.RowKit

/-- what stands in P is as it was -/
abbrev Keeps (P : Nat → Prop) (w w' : World) : Prop := Chg (fun b => ¬ P b) w w'
def And' (P : Nat → Prop) (a b : Nat) : Nat → Prop := fun g => P g ∨ (a ≤ g ∧ g < b)
/-- a node that was made since w0; what stands in P is none of it -/
structure NP (w0 w : World) (n l : Nat) (K : NK) (a : NAbs) (N : Nat) (P : Nat → Prop) : Prop where
  ok : NKOk K
  now : NOk K a.now
  old : ∀ o, a.old = some o → NOk K o
  at_ : ∃ lab v, NdQ w lab K v a (S1 K a) N ∧ v.n = n ∧ v.l = l ∧ ∀ b, lab.dom b → w0.heap.size ≤ b ∧ ¬ P b
  ext0 : Ext w0 w
  lt : ∀ b, P b → b < w.heap.size
section
variable {w0 w w' : World} {n l : Nat} {K : NK} {a : NAbs} {N : Nat} {P Q : Nat → Prop}
theorem NP.of {B : Nat → Prop} (h : NdI w B n K a N) (hb : ∀ b, B b → w0.heap.size ≤ b) (he : Ext w0 w) : ∃ l, NP w0 w n l K a N fun _ => False := by
  obtain ⟨lab, v, h1, h2, h3⟩ := h.at_
  exact ⟨v.l, h.ok, h.now, h.old, ⟨lab, v, h1, h2, rfl, fun b hx => ⟨hb b (h3 b hx), id⟩⟩, he, fun b hx => hx.elim⟩
theorem NP.mono (h : NP w0 w n l K a N P) (hq : ∀ b, Q b → P b) : NP w0 w n l K a N Q := by
  obtain ⟨lab, v, h1, h2, h3, h4⟩ := h.at_
  exact ⟨h.ok, h.now, h.old, ⟨lab, v, h1, h2, h3, fun b hb => ⟨(h4 b hb).1, fun hp => (h4 b hb).2 (hq b hp)⟩⟩, h.ext0, fun b hb => h.lt b (hq b hb)⟩
theorem NP.more (h : NP w0 w n l K a N P) {M : Nat} (hM : N ≤ M) : NP w0 w n l K a M P := by
  obtain ⟨lab, v, h1, h2, h3, h4⟩ := h.at_
  exact ⟨h.ok, h.now, h.old, ⟨lab, v, h1.more hM, h2, h3, h4⟩, h.ext0, h.lt⟩
/-- new memory is told -/
theorem NP.ext (h : NP w0 w n l K a N P) (hw : Ext w w') : NP w0 w' n l K a N (And' P w.heap.size w'.heap.size) := by
  obtain ⟨lab, v, h1, h2, h3, h4⟩ := h.at_
  have hs := hw.size
  exact ⟨h.ok, h.now, h.old, ⟨lab, v, h1.ext hw, h2, h3, fun b hb => ⟨(h4 b hb).1, fun hp => hp.elim (h4 b hb).2 fun hx => by obtain ⟨i, hi⟩ := hb; have := h1.r.lt b i hi; omega⟩⟩, h.ext0.trans hw, fun b hb => hb.elim (fun hx => Nat.lt_of_lt_of_le (h.lt b hx) hs) fun hx => hx.2⟩
/-- what is told is written -/
theorem NP.chgP (h : NP w0 w n l K a N P) (hc : Chg Q w w') (hQ : ∀ b, Q b → P b) (hQ0 : ∀ b, Q b → w0.heap.size ≤ b) : NP w0 w' n l K a N (And' P w.heap.size w'.heap.size) := by
  obtain ⟨lab, v, h1, h2, h3, h4⟩ := h.at_
  have hs := hc.size
  exact ⟨h.ok, h.now, h.old, ⟨lab, v, h1.chg hc fun g hg hq => (h4 g hg).2 (hQ g hq), h2, h3, fun b hb => ⟨(h4 b hb).1, fun hp => hp.elim (h4 b hb).2 fun hx => by obtain ⟨i, hi⟩ := hb; have := h1.r.lt b i hi; omega⟩⟩, hc.ext h.ext0 hQ0, fun b hb => hb.elim (fun hx => Nat.lt_of_lt_of_le (h.lt b hx) hs) fun hx => hx.2⟩
theorem NP.size0 (h : NP w0 w n l K a N P) : w0.heap.size ≤ w.heap.size := h.ext0.size
theorem NP.cell0 (h : NP w0 w n l K a N P) : w.cell? ⟨n, 0, none⟩ = some (ptr l) := by
  obtain ⟨lab, v, h1, rfl, rfl, h4⟩ := h.at_
  exact h1.r.kind.1
theorem NP.step {lab : Lab} {v' : NdV} {a' : NAbs} {N' : Nat} (h : NP w0 w n l K a N P) (hn : v'.n = n) (h4 : ∀ b, lab.dom b → w0.heap.size ≤ b ∧ ¬ P b) (o1 : NOk K a'.now) (o2 : ∀ o, a'.old = some o → NOk K o) {lab' : Lab} (hq : NdQ w' lab' K v' a' (S1 K a') N') (hs : Step w lab w' lab') : NP w0 w' n v'.l K a' N' P ∧ Keeps P w w' := by
  have h0 := h.size0
  exact ⟨⟨h.ok, o1, o2, ⟨lab', v', hq, hn, rfl, fun b hb => (hs.1 b hb).elim (h4 b) fun hx => ⟨by omega, fun hp => by have := h.lt b hp; omega⟩⟩, hs.2.ext h.ext0 fun g hg => (h4 g hg).1, fun b hb => Nat.lt_of_lt_of_le (h.lt b hb) hs.2.size⟩, hs.2.mono fun g hg _ => (h4 g hg).2⟩
theorem NP.stepT {lab : Lab} {v : NdV} {N' : Nat} (h : NP w0 w n l K a N P) (hn : v.n = n) (hl : v.l = l) (h4 : ∀ b, lab.dom b → w0.heap.size ≤ b ∧ ¬ P b) (hq : NdT w lab K v a (S1 K a) N' w') : NP w0 w' n l K a N' P ∧ Keeps P w w' := by
  obtain ⟨lab', h1, h2⟩ := hq
  subst hl
  exact h.step hn h4 h.now h.old h1 h2
theorem NP.stepM {lab : Lab} {v : NdV} {N' M : Nat} (h : NP w0 w n l K a N P) (hn : v.n = n) (hl : v.l = l) (h4 : ∀ b, lab.dom b → w0.heap.size ≤ b ∧ ¬ P b) (hq : NdTM w lab K v a (S1 K a) N' w' M) : NP w0 w' n l K a N' (And' P M w'.heap.size) ∧ Keeps P w w' ∧ w.heap.size ≤ M := by
  have hs := h.stepT hn hl h4 hq.ndt
  obtain ⟨lab', h1, h2, h3, h5, h6⟩ := hq
  have h0 := h.size0
  refine ⟨⟨h.ok, h.now, h.old, ⟨lab', v, h1, hn, hl, fun b hb => ⟨(h2.1 b hb).elim (fun hx => (h4 b hx).1) fun hx => by omega, fun hp => hp.elim (fun hp => (h2.1 b hb).elim (fun hx => (h4 b hx).2 hp) fun hx => by have := h.lt b hp; omega) fun hx => by have := h3 b hb; omega⟩⟩, hs.1.ext0, fun b hb => hb.elim (fun hx => hs.1.lt b hx) fun hx => hx.2⟩, hs.2, h5⟩
theorem NP.has (h : NP w0 w n l K a N P) (hN : N + 1 ≤ 8796093022208) {r : List V} {A : Option Addr} {m : Nat} (c : Nat) (ha : ArgR w A m r) :
    Calls Tryz.prog 20 #[.pointer (some ⟨l, 0, none⟩), .slice A m c] w fun e w' => e = .returned (.bool (inB a.now.live r)) ∧ NP w0 w' n l K a (N + 1) P ∧ Keeps P w w' := by
  obtain ⟨lab, v, h1, h2, h3, h4⟩ := h.at_
  have hc := live_has h1 hN c ha
  rw [h3] at hc
  refine hc.mono ?_
  rintro e w' ⟨rfl, ht⟩
  exact ⟨rfl, h.stepT h2 h3 h4 ht⟩
theorem NP.rows (h : NP w0 w n l K a N P) :
    Calls Tryz.prog 13 #[.pointer (some ⟨l, 0, none⟩)] w fun e w' => ∃ A c M, e = .returned (.slice A a.now.live.length c) ∧ MineA M w' A a.now.live.length c a.now.live ∧ NP w0 w' n l K a (N + 1) (And' P M w'.heap.size) ∧ Keeps P w w' ∧ w.heap.size ≤ M := by
  obtain ⟨lab, v, h1, h2, h3, h4⟩ := h.at_
  have hc := live_rows h1
  rw [h3] at hc
  refine hc.mono ?_
  rintro e w' ⟨A, c, M, rfl, hm, ht⟩
  exact ⟨A, c, M, rfl, hm, h.stepM h2 h3 h4 ht⟩
/-- one row is told, or none is -/
def OneP (w0 w : World) (n l : Nat) (K : NK) (a : NAbs) (N : Nat) (P : Nat → Prop) (o : Option (List V)) (f : Value → Bool → Ending) (e : Ending) (w' : World) : Prop := match o with
  | none => e = f (.slice none 0 0) false ∧ NP w0 w' n l K a N P ∧ Keeps P w w'
  | some r => ∃ A c Q, e = f (.slice A r.length c) true ∧ RowAt w' A r.length r ∧ (∀ x, A = some x → Q x.block) ∧ (∀ b, P b → Q b) ∧ (∀ b, Q b → P b ∨ w.heap.size ≤ b) ∧ NP w0 w' n l K a N Q ∧ Keeps P w w'
/-- what Next answers -/
def NextP (w0 w : World) (n l : Nat) (K : NK) (a : NAbs) (N : Nat) (P : Nat → Prop) (r : List V) (e : Ending) (w' : World) : Prop :=
  (inB a.now.live r = false ∧ e = .returned (.tuple #[.slice none 0 0, .bool false, .int .i64 62]) ∧ NP w0 w' n l K a N P ∧ Keeps P w w') ∨
  (inB a.now.live r = true ∧ ∃ i, (grpS (S1 K a) 0 (keyR K.up r))[i]? = some r ∧ OneP w0 w n l K a N P (grpS (S1 K a) 0 (keyR K.up r))[i + 1]? nextE e w')
theorem NP.support (h : NP w0 w n l K a N P) (hN : N + 262145 ≤ 8796093022208) {r : List V} {A : Option Addr} {m : Nat} (c : Nat) (ha : ArgR w A m r) (hA : ∀ x, A = some x → P x.block) :
    Calls Tryz.prog 21 #[.pointer (some ⟨n, 0, none⟩), .slice A m c] w fun e w' => e = .returned (.int .i64 (supN K a.now r)) ∧ NP w0 w' n l K a (N + 2) P ∧ Keeps P w w' := by
  obtain ⟨lab, v, h1, h2, h3, h4⟩ := h.at_
  have hc := node_support h1 h.ok h.now hN c ha fun x hx hb => (h4 _ hb).2 (hA x hx)
  rw [h2] at hc
  refine hc.mono ?_
  rintro e w' ⟨rfl, ht⟩
  exact ⟨rfl, h.stepT h2 h3 h4 ht⟩
theorem NP.stored (h : NP w0 w n l K a N P) : Calls Tryz.prog 14 #[.pointer (some ⟨n, 0, none⟩)] w fun e w' => e = .returned (.int .i64 (storedN K a.now : Nat)) ∧ Ext w w' := by
  obtain ⟨lab, v, h1, h2, h3, h4⟩ := h.at_
  have hc := node_stored h1 h.ok
  rw [h2] at hc
  exact hc
theorem NP.begin (h : NP w0 w n l K a N P) : Calls Tryz.prog 26 #[.pointer (some ⟨n, 0, none⟩)] w fun e w' => e = .returned (.int .i64 (beginN a).2) ∧ ∃ l', NP w0 w' n l' K (beginN a).1 (N + 3) P ∧ Keeps P w w' := by
  obtain ⟨lab, v, h1, h2, h3, h4⟩ := h.at_
  cases ho : a.old with
  | some o =>
    have hc := beg_marked h1 ho
    rw [h2] at hc
    have hb : beginN a = (a, 64) := by unfold beginN; rw [ho]
    rw [hb]
    refine hc.mono ?_
    rintro e w' ⟨rfl, ht⟩
    have := h.stepT h2 h3 h4 ht
    exact ⟨rfl, l, this.1.more (by omega), this.2⟩
  | none =>
    have hc := beg_new h1 h.ok ho
    rw [h2] at hc
    have hb : beginN a = (⟨a.now, some a.now⟩, 0) := by unfold beginN; rw [ho]
    rw [hb]
    refine hc.mono ?_
    rintro e w' ⟨rfl, lab', v', hn, hq, hs⟩
    exact ⟨rfl, v'.l, h.step hn h4 h.now (fun o ho2 => (Option.some.inj ho2) ▸ h.now) hq hs⟩
theorem NP.roll (h : NP w0 w n l K a N P) (hN : N + 3 ≤ 8796093022208) : Calls Tryz.prog 27 #[.pointer (some ⟨n, 0, none⟩)] w fun e w' => e = .returned (.int .i64 (rollN a).2) ∧ ∃ l', NP w0 w' n l' K (rollN a).1 (N + 3) P ∧ Keeps P w w' := by
  obtain ⟨lab, v, h1, h2, h3, h4⟩ := h.at_
  have hc := node_rollback h1 h.ok hN
  rw [h2] at hc
  refine hc.mono ?_
  rintro e w' ⟨rfl, lab', v', hn, hq, hs⟩
  have hk : NOk K (rollN a).1.now ∧ ∀ o, (rollN a).1.old = some o → NOk K o := by
    cases ho : a.old with
    | none =>
      have hr : rollN a = (a, 65) := by unfold rollN; rw [ho]
      rw [hr]; exact ⟨h.now, h.old⟩
    | some o =>
      have hr : rollN a = (⟨o, none⟩, 0) := by unfold rollN; rw [ho]
      rw [hr]; exact ⟨h.old o ho, fun o hx => by cases hx⟩
  exact ⟨rfl, v'.l, h.step hn h4 hk.1 hk.2 hq hs⟩
/-- what a turn told, in P, from T on -/
def MovedIn (P : Nat → Prop) (T : Nat) (w : World) (F U : List (List V)) (y : Value) : Prop :=
  ∃ A c A2 c2 X Y, y = .agg #[.slice A F.length c, .slice A2 U.length c2] ∧ ToldA w X A F.length c F ∧ ToldA w Y A2 U.length c2 U ∧ (∀ b, X b → ¬ Y b) ∧ ∀ b, X b ∨ Y b → P b ∧ T ≤ b
theorem MovedIn.chg {C : Nat → Prop} {T : Nat} {F U : List (List V)} {y : Value} (h : MovedIn P T w F U y) (hw : Chg C w w') (hC : ∀ b, P b → ¬ C b) (hq : ∀ b, P b → Q b) : MovedIn Q T w' F U y := by
  obtain ⟨A, c, A2, c2, X, Y, e, h1, h2, h3, h4⟩ := h
  exact ⟨A, c, A2, c2, X, Y, e, h1.chg hw (fun b hb => hC b (h4 b (.inl hb)).1) (fun _ h => h), h2.chg hw (fun b hb => hC b (h4 b (.inr hb)).1) (fun _ h => h), h3, fun b hb => ⟨hq b (h4 b hb).1, (h4 b hb).2⟩⟩
theorem MovedIn.keep {T : Nat} {F U : List (List V)} {y : Value} (h : MovedIn P T w F U y) (hw : Keeps P w w') (hq : ∀ b, P b → Q b) : MovedIn Q T w' F U y := h.chg hw (fun _ hb hn => hn hb) hq
theorem MovedIn.ext {T : Nat} {F U : List (List V)} {y : Value} (h : MovedIn P T w F U y) (hw : Ext w w') (hq : ∀ b, P b → Q b) : MovedIn Q T w' F U y := h.keep (Chg.of hw) hq
/-- a turn leaves the node and what it told -/
def TurnP (w0 w : World) (n l : Nat) (K : NK) (a : NAbs) (N : Nat) (P : Nat → Prop) (t : Turn) (e : Ending) (w' : World) : Prop :=
  ∃ y Q, e = .returned (.tuple #[y, .int .i64 t.2.2.2]) ∧ NP w0 w' n l K { a with now := t.1 } (N + 1048576) Q ∧ Keeps P w w' ∧ (∀ b, P b → Q b) ∧ (∀ b, Q b → P b ∨ w.heap.size ≤ b) ∧ MovedIn Q w.heap.size w' t.2.1 t.2.2.1 y
theorem TurnP.of {lab : Lab} {v : NdV} {t : Turn} {e : Ending} (h : NP w0 w n l K a N P) (hn : v.n = n) (hl : v.l = l) (h4 : ∀ b, lab.dom b → w0.heap.size ≤ b ∧ ¬ P b) (ho : NOk K t.1) (hq : TurnAt w lab K v a (N + 1048576) t e w') : TurnP w0 w n l K a N P t e w' := by
  obtain ⟨y, lab', rfl, h1, h2, A, c, A2, c2, X, Y, rfl, m1, m2, m3, m4⟩ := hq
  have h0 := h.size0
  have hs := h.step hn h4 (a' := { a with now := t.1 }) ho h.old h1 h2
  obtain ⟨lab9, v9, -⟩ := hs.1.at_
  refine ⟨_, fun b => P b ∨ (X b ∨ Y b), rfl, ⟨h.ok, ho, h.old, ⟨lab', v, h1, hn, hl, fun b hb => ⟨(h2.1 b hb).elim (fun hx => (h4 b hx).1) fun hx => by omega, fun hp => hp.elim (fun hp => (h2.1 b hb).elim (fun hx => (h4 b hx).2 hp) fun hx => by have := h.lt b hp; omega) fun hx => (m4 b hx).2.2 hb⟩⟩, hs.1.ext0, fun b hb => hb.elim (hs.1.lt b) fun hx => (m4 b hx).2.1⟩, hs.2, fun b hb => .inl hb, fun b hb => hb.imp id fun hx => (m4 b hx).1, A, c, A2, c2, X, Y, rfl, m1, m2, m3, fun b hb => ⟨.inr hb, (m4 b hb).1⟩⟩
theorem NP.on (h : NP w0 w n l K a N P) (hN : N + 1048576 ≤ 8796093022208) (from_ : Int) {r : List V} {A : Option Addr} {m : Nat} (c : Nat) (ha : ArgR w A m r) (hA : ∀ x, A = some x → P x.block) :
    Calls Tryz.prog 33 #[.pointer (some ⟨n, 0, none⟩), .int .i64 from_, .slice A m c] w (TurnP w0 w n l K a N P (turnN K a.now true from_ r)) := by
  obtain ⟨lab, v, h1, h2, h3, h4⟩ := h.at_
  have hc := node_on h1 h.ok h.now hN from_ c ha (fun x hx hb => (h4 _ hb).2 (hA x hx)) fun x hx => h.lt _ (hA x hx)
  rw [h2] at hc
  exact hc.mono fun e w' hq => TurnP.of h h2 h3 h4 (turn_ok h.ok h.now true from_ ha.small ha.wf) hq
theorem NP.off (h : NP w0 w n l K a N P) (hN : N + 1048576 ≤ 8796093022208) (from_ : Int) {r : List V} {A : Option Addr} {m : Nat} (c : Nat) (ha : ArgR w A m r) (hA : ∀ x, A = some x → P x.block) :
    Calls Tryz.prog 35 #[.pointer (some ⟨n, 0, none⟩), .int .i64 from_, .slice A m c] w (TurnP w0 w n l K a N P (turnN K a.now false from_ r)) := by
  obtain ⟨lab, v, h1, h2, h3, h4⟩ := h.at_
  have hc := node_off h1 h.ok h.now hN from_ c ha (fun x hx hb => (h4 _ hb).2 (hA x hx)) fun x hx => h.lt _ (hA x hx)
  rw [h2] at hc
  exact hc.mono fun e w' hq => TurnP.of h h2 h3 h4 (turn_ok h.ok h.now false from_ ha.small ha.wf) hq
end
end Go.Proofs.YtahdiiaadjdmcaaGreat
