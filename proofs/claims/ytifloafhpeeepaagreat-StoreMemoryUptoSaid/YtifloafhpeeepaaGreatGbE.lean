/-
  store: Clear.
  StoreTurns, StorePlays, StoreTwo: a store beside things that are told: Drop, Clear, Begin, Commit, Rollback; all keys; all groups.
-/
import Derived.Test.YtifloafhpeeepaaGreatGbB
import Derived.Test.YtifloafhpeeepaaGreatStaE
import Derived.Test.YtifloafhpeeepaaGreatGbC
import Derived.Test.YtifloafhpeeepaaGreatGaM
import Derived.Test.YtifloafhpeeepaaGreatGbO
namespace Go.Proofs.YtifloafhpeeepaaGreat
open Go.RowKit

def clearS (S : SAbs) : SAbs := { S with rows := [] }
/-- a store whose rows go one by one: k of them may still go -/
structure StJ (w : World) (B : Nat → Prop) (x : Nat) (S : SAbs) (N k : Nat) (lab : Lab) (v : StV) (D : Nat → List (List V × Nat)) (P0 : List SRow) (F0 : List Nat) : Prop where
  m : StM w lab v
  dom : ∀ b, lab.dom b → B b
  eq : SEq S x v P0
  ok : StOk v D N P0 F0
  gs : ∀ i, genA v.sl i < N - puts v.U
  gL : ∀ i, genA v.sL i < N - puts v.U
  K : v.K + 64 * v.U.length + 128 * k ≤ kBound N
  ul : v.U.length + k ≤ N * 65536
  mkd : v.marked = true
def StK (w : World) (B : Nat → Prop) (x : Nat) (S : SAbs) (N k : Nat) : Prop := ∃ lab v D P0 F0, StJ w B x S N k lab v D P0 F0
theorem StK.sti {w : World} {B : Nat → Prop} {x : Nat} {S : SAbs} {N k : Nat} (h : StK w B x S N k) : StI w B x S N := by
  obtain ⟨lab, v, D, P0, F0, h⟩ := h
  exact ⟨lab, v, D, P0, F0, h.m, h.dom, h.eq, h.ok⟩
theorem StI.gauge {w : World} {B : Nat → Prop} {x : Nat} {S : SAbs} {N : Nat} (h : StI w B x S N) {o : List (List V)} (ho : S.old = some o) : StK w B x S (N + 1) 65536 := by
  obtain ⟨lab, v, D, P0, F0, h1, h2, h3, h4⟩ := h
  have hpu := h4.pu
  have hK := h4.K
  have hk := kBound_add N (Nat.le_refl 1)
  have hul := h4.ul
  refine ⟨lab, v.tick 0, D, P0, F0, h1.tick 0, h2, h3.tick 0, h4.tick 0 1 (by omega) (Nat.le_refl _), fun i => ?_, fun i => ?_, ?_, ?_, ?_⟩
  · have h9 := h4.gen.s i
    show genA v.sl i < N + 1 - puts v.U
    omega
  · have h9 := h4.gen.L i
    show genA v.sL i < N + 1 - puts v.U
    omega
  · show v.K + 0 + 64 * v.U.length + 128 * 65536 ≤ kBound (N + 1)
    omega
  · show v.U.length + 65536 ≤ (N + 1) * 65536
    omega
  · show v.marked = true
    rw [h3.mark, ho]; rfl
/-- one row goes -/
theorem drop_k {w : World} {B : Nat → Prop} {x : Nat} {S : SAbs} {N k : Nat} (h : StK w B x S N (k + 1)) (hN : N ≤ 8388608) {r : List V} {A : Option Addr} {n : Nat} (c : Nat) (ha : ArgR w A n r) (hB : Aside B A) (hr : r ∈ S.rows) :
    Calls Tryz.prog 30 #[.pointer (some ⟨x, 0, none⟩), .slice A n c] w fun e w' => e = .returned (.tuple #[.bool true, .int .i64 0]) ∧ ∃ B', StK w' B' x { S with rows := delR r S.rows } N k ∧ (∀ b, B' b → B b ∨ w.heap.size ≤ b) ∧ (∀ b, B' b → b < w'.heap.size) ∧ Chg B w w' := by
  obtain ⟨lab, v, D, P0, F0, h⟩ := h
  have hpu := h.ok.pu
  have hK := h.K
  have hul := h.ul
  have hk := kBound_le hN
  have hle : v.P.length ≤ v.most := by have h5 := (h.m.part 2).ok.live; have h6 := (h.m.part 2).ok.len; have h7 := h.ok.row.lv; omega
  have hcore := drop_core h.m (D := D) (N := N) (M := N - puts v.U) h.ok.at_ h.gs h.gL (by omega) (by omega) (by omega) c ha (fun a ha hd => hB a ha (h.dom _ hd))
  rw [h.eq.x] at hcore
  have hin : r ∈ v.P.map (·.2) := by rw [← h.eq.rows]; exact hr
  refine hcore.mono ?_
  rintro e w' (⟨hf, -, -⟩ | ⟨-, hn, -, -⟩ | ⟨hf, P1, P2, s, v', D', hP, hU, hA, rfl, hm⟩)
  · obtain ⟨p, hp, rfl⟩ := List.mem_map.1 hin
    rw [(h.ok.row.rows p hp).1] at hf
    cases hf
  · exact absurd hin hn
  · refine ⟨rfl, ?_⟩
    rcases hm with ⟨hm, -⟩ | ⟨hm, A8, c8, u, A', n', c', H, m, d, lab2, m2, d2, c2⟩
    · rw [h.mkd] at hm; cases hm
    · have hUU : v'.U = v.U := hU.kept.U
      have hKK := hU.K
      rw [show (v.tick 1).K = v.K + 1 from rfl] at hKK
      have hlen : (v'.U ++ [Und.drop r A' n' c' (aheads v.gs r P2) H m d]).length = v.U.length + 1 := by rw [List.length_append, List.length_singleton, hUU]
      have hps : puts (v'.U ++ [Und.drop r A' n' c' (aheads v.gs r P2) H m d]) = puts v.U := by rw [hUU, puts_snoc]; rfl
      have hr2 := hA.row
      refine ⟨lab2.dom, ⟨lab2, _, D', P0, F0, m2, fun b hb => hb, h.eq.dropM h.ok.row hP hU, ⟨⟨hr2.width, hr2.most, hr2.gsl, hr2.gs, hr2.rows, hr2.slots, hr2.vals, hr2.alive, hr2.lv, hr2.refs, hr2.ents, hr2.gx⟩, hA.lan, hA.gen.mono ?_, ?_, ?_, ?_, ?_, fun hf => ?_⟩, fun i => ?_, fun i => ?_, ?_, ?_, hU.kept.marked.trans h.mkd⟩, fun b hb => (d2 b hb).imp (h.dom b) id, fun b ⟨i, hi⟩ => m2.lt b i hi, c2.mono fun g hg _ => h.dom g hg⟩
      · show N - puts v.U ≤ N - puts (v'.U ++ [Und.drop r A' n' c' (aheads v.gs r P2) H m d])
        rw [hps]; exact Nat.le_refl _
      · show puts (v'.U ++ [Und.drop r A' n' c' (aheads v.gs r P2) H m d]) ≤ N
        rw [hps]; exact hpu
      · show v'.K + 64 * (v'.U ++ [Und.drop r A' n' c' (aheads v.gs r P2) H m d]).length ≤ kBound N
        rw [hlen]; omega
      · show (v'.U ++ [Und.drop r A' n' c' (aheads v.gs r P2) H m d]).length ≤ N * 65536
        rw [hlen]; omega
      · show Hist (RowsOk v'.width v'.most) v'.gs P0 F0 (v'.U ++ [.drop r A' n' c' (aheads v.gs r P2) H m d]) v'.P (fsOf v'.most v'.sl v'.fr)
        rw [hU.P, hU.fs, hUU, show v'.gs = v.gs from hU.kept.gs, show v'.width = v.width from hU.kept.width, show RowsOk v.width v'.most = RowsOk v.width v.most by rw [show v'.most = v.most from hU.kept.most]]
        refine .drop (by rw [← hP]; exact ⟨h.ok.row.rows, h.ok.row.vals, hle⟩) ?_
        have h2 := h.ok.hist
        rw [hP] at h2
        exact h2
      · have h1 : v'.marked = false := hf
        rw [show v'.marked = v.marked from hU.kept.marked, hm] at h1
        cases h1
      · show genA v'.sl i < N - puts (v'.U ++ [Und.drop r A' n' c' (aheads v.gs r P2) H m d])
        rw [hps, hU.gs i]; exact h.gs i
      · show genA v'.sL i < N - puts (v'.U ++ [Und.drop r A' n' c' (aheads v.gs r P2) H m d])
        rw [hps, hU.gL i]; exact h.gL i
      · show v'.K + 64 * (v'.U ++ [Und.drop r A' n' c' (aheads v.gs r P2) H m d]).length + 128 * k ≤ kBound N
        rw [hlen]; omega
      · show (v'.U ++ [Und.drop r A' n' c' (aheads v.gs r P2) H m d]).length + k ≤ N * 65536
        rw [hlen]; omega
theorem StI.more {w : World} {B : Nat → Prop} {x : Nat} {S : SAbs} {N : Nat} (h : StI w B x S N) {M : Nat} (hM : N ≤ M) : StI w B x S M := by
  rcases Nat.lt_or_ge N M with hl | hl
  · obtain ⟨lab, v, D, P0, F0, h1, h2, h3, h4⟩ := h
    have h5 := h4.tick 0 (M - N) (by omega) (by omega)
    rw [show N + (M - N) = M by omega] at h5
    exact ⟨lab, v.tick 0, D, P0, F0, h1.tick 0, h2, h3.tick 0, h5⟩
  · obtain rfl : N = M := by omega
    exact h
theorem StS.more {w w' : World} {B : Nat → Prop} {x : Nat} {S : SAbs} {N : Nat} (h : StS w B x S N w') {M : Nat} (hM : N ≤ M) : StS w B x S M w' := by
  obtain ⟨B', h1, h2⟩ := h
  exact ⟨B', h1.more hM, h2⟩
theorem delR_head (r : List V) (l : List (List V)) : delR r (r :: l) = l := by simp [delR, sameR_iff.2 (rfl : r = r)]
set_option maxRecDepth 100000 in
/-- without a mark: all is laid anew -/
theorem clear_none {w : World} {B : Nat → Prop} {x : Nat} {S : SAbs} {N : Nat} (h : StI w B x S N) (ho : S.old = none) :
    Calls Tryz.prog 31 #[.pointer (some ⟨x, 0, none⟩)] w fun e w' => e = .returned (.tuple #[]) ∧ StS w B x (clearS S) (N + 1) w' := by
  obtain ⟨lab, v, D, P0, F0, h1, h2, h3, h4⟩ := h
  have hm : v.marked = false := by
    have := h3.mark
    rw [ho] at this
    exact this
  have a11 : w.cell? ⟨x, 11, none⟩ = some (.bool false) := by
    rw [← h3.x]
    have h5 := h1.str.cell 11
    rw [show v.cells[11]? = some (.bool v.marked) from rfl, hm] at h5
    exact h5
  have hidle := h4.idle hm
  have hr := h4.row
  have hx0 : Blk w x 78 (layC v.width v.most (v.gs.length + 1) v.GA v.gs.length v.cG (.pointer (some ⟨v.xs, 0, none⟩)) (.map (some v.rm)) (.pointer (some ⟨v.xw, 0, none⟩)) (.slice v.gA v.gx.length v.gC) (.pointer (some ⟨v.xl, 0, none⟩)) (.map (some v.lm)) (.pointer (some ⟨v.xo, 0, none⟩))) := by
    have h5 := h1.str
    rw [h3.x] at h5
    unfold StV.cells at h5
    rw [hm, hidle.2.1, hidle.2.2.1, hidle.2.2.2] at h5
    exact h5
  have hxd : lab.own 0 x := by rw [← h3.x]; exact (h1.part 0).2.1
  have HL := hide (lay_any hx0 (h1.part 1) (fun h => by have h6 : some 0 = some 1 := hxd.symm.trans h; cases h6) (fun b hb => h1.lt b _ hb) hr.most hr.gsl)
  have HB := hide (fun (w' : World) (lab' : Lab) (v' : StV) (m' : StM w' lab' v') (hf : Fresh v' x v.width v.most v.gs) (hd : ∀ b, lab'.dom b → b = x ∨ lab.own 1 b ∨ w.heap.size ≤ b) (hc : Chg (fun b => b = x) w w') => show StS w B x (clearS S) (N + 1) w' from by
    have h9 := (hf.sti m' hr.width hr.most hr.gsl hr.gs).more (show 1 ≤ N + 1 by omega)
    have e : clearS S = ⟨v.width, v.most, v.gs, [], none⟩ := by
      have e1 := h3.width; have e2 := h3.most; have e3 := h3.gs
      obtain ⟨a, b, c, d, f⟩ := S
      simp only at ho e1 e2 e3
      subst ho; subst e1; subst e2; subst e3
      rfl
    rw [e]
    exact ⟨lab'.dom, h9, fun b hb => (hd b hb).elim (fun h => .inl (by rw [h]; exact h2 _ ⟨0, hxd⟩)) fun h => h.imp (fun h => h2 _ ⟨1, h⟩) id, fun b ⟨i, hi⟩ => m'.lt b i hi, hc.mono fun g hg _ => by rw [hg]; exact h2 _ ⟨0, hxd⟩⟩)
  clear h1 h2 h3 h4 ho hm hidle hr hx0 hxd
  go_enter Tryz.func31, Tryz.ntmps31
  go_wp2_with ((with_reducible refine HL.out.mono ?_); rintro e w2 ⟨rfl, lab', v', q1, q2, q3, q4⟩; have HQ := hide (HB.out w2 lab' v' q1 q2 q3 q4); clear q1 q2 q3 q4)
  (try simp only [Exit.inBlock, Exit.then]); refine bodyPost_ret (results_none rfl _ _ _) rfl ?_
  exact ⟨rfl, HQ.out⟩
/-- a row that was told, behind a change elsewhere -/
theorem MineV.argK {M : Nat} {w : World} {A : Option Addr} {n c : Nat} {rows : List (List V)} (h : MineV M w A n c rows) {i : Nat} {r : List V} (hr : rows[i]? = some r) (h2 : r.length ≤ 1048576) (h3 : smallR r) (h4 : wfR r) {B1 : Nat → Prop} {w' : World} (hc : Chg B1 w w') (hB : ∀ b, B1 b → b < M) :
    ∃ b off A9 c9, A = some ⟨b, off, none⟩ ∧ w'.cell? ⟨b, off + i, none⟩ = some (.slice A9 r.length c9) ∧ ArgR w' A9 r.length r ∧ ∀ a, A9 = some a → M ≤ a.block ∧ a.block < w.heap.size := by
  obtain ⟨cells, k1, k2, k3⟩ := h
  have hi := (List.getElem?_eq_some_iff.1 hr).1
  have hL : LAt (RMine M) 1 w A n rows := ⟨k1, cells, k3, Sl.own k2⟩
  obtain ⟨b, off, r', cs, hA, hx, hb1, _, _, ⟨A9, n9, c9, rfl, hR⟩, hcell⟩ := hL.get (by omega) (i := i) (by omega)
  obtain rfl : r = r' := Option.some.inj (hr.symm.trans hx)
  have h0 := hcell 0 (by omega)
  rw [Nat.mul_one, Nat.add_zero] at h0
  have hbM : M ≤ b := own_ge k2 _ hA
  have hat := RowAt.own hR
  obtain rfl := hat.len
  have hge : ∀ a, A9 = some a → M ≤ a.block ∧ a.block < w.heap.size := fun a ha => hR.lt a.block (by rw [ha]; rfl)
  exact ⟨b, off, A9, c9, hA, hc.cell h0 (fun hb => by have := hB b hb; omega), (show ArgR w A9 r.length r from ⟨hat, h2, h3, h4⟩).chg (fun a ha hb => by have h5 := hB _ hb; have h6 := (hge a ha).1; omega) hc, hge⟩
set_option maxRecDepth 100000 in
set_option maxHeartbeats 1000000 in
/-- behind a mark: the rows go one by one -/
theorem clear_some {w : World} {B : Nat → Prop} {x : Nat} {S : SAbs} {N : Nat} (h : StI w B x S N) (hN : N + 2 ≤ 8388608) {o : List (List V)} (ho : S.old = some o) :
    Calls Tryz.prog 31 #[.pointer (some ⟨x, 0, none⟩)] w fun e w' => e = .returned (.tuple #[]) ∧ StS w B x (clearS S) (N + 2) w' := by
  have HR := hide (rows_st h)
  obtain ⟨hle, hfit⟩ : S.rows.length ≤ 65536 ∧ ∀ r ∈ S.rows, r.length ≤ 30 ∧ smallR r ∧ wfR r := by
    obtain ⟨lab, v, D, P0, F0, h1, h2, h3, h4⟩ := h
    refine ⟨?_, fun r hr => ?_⟩
    · have h5 := (h1.part 2).ok.live
      have h6 := (h1.part 2).ok.len
      have h7 := h4.row.lv
      have h8 := h4.row.most
      rw [h3.rows, List.length_map]; omega
    · rw [h3.rows] at hr
      obtain ⟨p, hp, rfl⟩ := List.mem_map.1 hr
      exact ⟨(row_in h4.at_ (s := p.1) (r := p.2) hp).1, (h4.row.rows p hp).2⟩
  have a11 : w.cell? ⟨x, 11, none⟩ = some (.bool true) := by
    obtain ⟨lab, v, D, P0, F0, h1, h2, h3, h4⟩ := h
    have hm := h3.mark
    rw [ho] at hm
    rw [← h3.x]
    have h5 := h1.str.cell 11
    rw [show v.cells[11]? = some (.bool v.marked) from rfl, hm] at h5
    exact h5
  have HO := hide ho; have HLE := hide hle; have HF := hide hfit
  clear h ho hle hfit
  go_enter Tryz.func31, Tryz.ntmps31
  go_upto_region 3 with ((with_reducible refine HR.out.mono ?_); rintro e w1 ⟨A, c, M, rfl, q1, q2⟩; have HM := hide q1; have HS := hide q2; clear q1 q2)
  obtain ⟨B1, k1, k2, k3, k4, k5, k6⟩ := HS.out
  have HB := hide (And.intro k2 (And.intro k3 (And.intro k4 (And.intro k5 k6))))
  have HK := hide (show ∃ B', StK w1 B' x { S with rows := S.rows.drop 0 } (N + 2) (65536 - 0) ∧ (∀ b, B' b → B1 b ∨ w1.heap.size ≤ b) ∧ (∀ b, B' b → b < w1.heap.size) ∧ Chg B1 w1 w1 from ⟨B1, k1.gauge HO.out, fun _ h => .inl h, fun b hb => Nat.lt_of_lt_of_le (k3 b hb) k6, Chg.refl _ _⟩)
  clear k1 k2 k3 k4 k5 k6 HS
  obtain ⟨rl, hrl⟩ : ∃ rl, S.rows.length = rl := ⟨_, rfl⟩
  have HRL := hide hrl
  rw [hrl] at HM HLE ⊢
  clear hrl a11 HR
  go_loopw [3, 14] (fun _ s14 w' => ∃ i : Nat, i ≤ rl ∧ s14 = .int .i64 i ∧ Hid (∃ B', StK w' B' x { S with rows := S.rows.drop i } (N + 2) (65536 - i) ∧ (∀ b, B' b → B1 b ∨ w1.heap.size ≤ b) ∧ (∀ b, B' b → b < w'.heap.size) ∧ Chg B1 w1 w')) (fun _ s14 _ => rl - (intOf s14).toNat)
  case atStart => exact ⟨0, by omega, rfl, HK⟩
  case round =>
    obtain ⟨i, hi, rfl, hI⟩ := hrel
    obtain ⟨B', j1, j2, jl, j3⟩ := hI.out
    by_cases hil : i < rl
    · obtain ⟨r, hr⟩ : ∃ r, S.rows[i]? = some r := ⟨_, List.getElem?_eq_getElem (by have := HRL.out; omega)⟩
      have hf := HF.out r (List.mem_of_getElem? hr)
      obtain ⟨b, off, A9, c9, rfl, hcell, hA, hge⟩ := HM.out.argK hr (by omega) hf.2.1 hf.2.2 j3 HB.out.2.1
      have hdr : S.rows.drop i = r :: S.rows.drop (i + 1) := by
        rw [List.drop_eq_getElem_cons (by have := HRL.out; omega)]
        congr 1
        exact (List.getElem?_eq_some_iff.1 hr).2
      have hle := HLE.out
      rw [show 65536 - i = (65536 - (i + 1)) + 1 by omega] at j1
      have hD := drop_k j1 hN c9 hA (fun a ha hb => by have h1 := hge a ha; rcases j2 _ hb with h2 | h2; have := HB.out.2.1 _ h2; omega; omega) (by show r ∈ S.rows.drop i; rw [hdr]; simp)
      rw [show delR r ({ S with rows := S.rows.drop i } : SAbs).rows = S.rows.drop (i + 1) from by show delR r (S.rows.drop i) = _; rw [hdr, delR_head]] at hD
      have HD := hide hD; have J2 := hide j2; have J3 := hide j3
      clear hD j1 j2 jl j3 hI hr hf hA hge hdr
      go_wp2_with ((with_reducible refine HD.out.mono ?_); rintro e w3 ⟨rfl, B3, y1, y2, y3, y4⟩; have Y := hide (show ∃ B', StK w3 B' x { S with rows := S.rows.drop (i + 1) } (N + 2) (65536 - (i + 1)) ∧ (∀ b, B' b → B1 b ∨ w1.heap.size ≤ b) ∧ (∀ b, B' b → b < w3.heap.size) ∧ Chg B1 w1 w3 from ⟨B3, y1, fun b hb => (y2 b hb).elim (J2.out b) fun h => .inr (Nat.le_trans J3.out.size h), y3, J3.out.trans y4 fun g hg hl => (J2.out g hg).resolve_right (by omega)⟩); clear y1 y2 y3 y4)
      go_roundw
      case rel => exact ⟨i + 1, by omega, by go_num, Y⟩
      case measure => simp [intOf]; omega
    · obtain rfl : i = rl := by omega
      have e : S.rows.drop i = [] := by rw [List.drop_eq_nil_iff]; have := HRL.out; omega
      rw [e] at j1
      have HJ := hide (show StS w B x (clearS S) (N + 2) wr from by
        obtain ⟨q2, q3, q4, q5, q6⟩ := HB.out
        refine ⟨B', j1.sti, fun b hb => ?_, fun b hb => ?_, q4.trans j3 fun g hg hl => (q2 g hg).resolve_right (by omega)⟩
        · rcases j2 b hb with h | h
          · exact q2 b h
          · exact .inr (by omega)
        · exact jl b hb)
      clear j1 j2 jl j3 hI
      go_wp2_with fail
      go_end0
      exact ⟨rfl, HJ.out⟩
/-- Clear -/
theorem clear_st {w : World} {B : Nat → Prop} {x : Nat} {S : SAbs} {N : Nat} (h : StI w B x S N) (hN : N + 2 ≤ 8388608) :
    Calls Tryz.prog 31 #[.pointer (some ⟨x, 0, none⟩)] w fun e w' => e = .returned (.tuple #[]) ∧ StS w B x (clearS S) (N + 2) w' := by
  cases ho : S.old with
  | none =>
    refine (clear_none h ho).mono ?_
    rintro e w' ⟨rfl, h1⟩
    exact ⟨rfl, h1.more (by omega)⟩
  | some o => exact clear_some h hN ho
end Go.Proofs.YtifloafhpeeepaaGreat

namespace Go.Proofs.YtifloafhpeeepaaGreat
open Go.RowKit

section
variable {w0 w : World} {x : Nat} {S : SAbs} {N : Nat} {P : Nat → Prop}
theorem FP.drop (h : FP w0 w x S N P) (hN : N + 1 ≤ 8388608) {r : List V} {A : Option Addr} {n : Nat} (c : Nat) (ha : ArgR w A n r) (hA : ∀ a, A = some a → P a.block) :
    Calls Tryz.prog 30 #[.pointer (some ⟨x, 0, none⟩), .slice A n c] w fun e w' => e = .returned (.tuple #[.bool (dropS S r).2.1, .int .i64 (dropS S r).2.2]) ∧ FP w0 w' x (dropS S r).1 (N + 1) P ∧ Keeps P w w' := by
  obtain ⟨B, h1, h2, h3, h4⟩ := h
  refine (drop_st h1 hN c ha (fun a ha hb => (h2 _ hb).2.2 (hA a ha))).mono ?_
  rintro e w' ⟨rfl, hs⟩
  exact ⟨rfl, FP.step h2 h3 h4 hs⟩
theorem FP.clear (h : FP w0 w x S N P) (hN : N + 2 ≤ 8388608) :
    Calls Tryz.prog 31 #[.pointer (some ⟨x, 0, none⟩)] w fun e w' => e = .returned (.tuple #[]) ∧ FP w0 w' x (clearS S) (N + 2) P ∧ Keeps P w w' := by
  obtain ⟨B, h1, h2, h3, h4⟩ := h
  refine (clear_st h1 hN).mono ?_
  rintro e w' ⟨rfl, hs⟩
  exact ⟨rfl, FP.step h2 h3 h4 hs⟩
theorem FP.rowsM (h : FP w0 w x S N P) :
    Calls Tryz.prog 12 #[.pointer (some ⟨x, 0, none⟩)] w fun e w' => ∃ A c M, e = .returned (.slice A S.rows.length c) ∧ MineV M w' A S.rows.length c S.rows ∧ FP w0 w' x S (N + 1) (And' P M w'.heap.size) ∧ Keeps P w w' ∧ w.heap.size ≤ M := by
  obtain ⟨B, h1, h2, h3, h4⟩ := h
  refine (rows_st h1).mono ?_
  rintro e w' ⟨A, c, M, rfl, hm, hs⟩
  have h5 := FP.stepM h2 h3 h4 hs
  obtain ⟨B', k1, k2, k3, k4, k5, k6⟩ := hs
  exact ⟨A, c, M, rfl, hm, h5.1, h5.2, k5⟩
theorem FP.size0 (h : FP w0 w x S N P) : w0.heap.size ≤ w.heap.size := h.ext0.size
/-- what is told is written -/
theorem FP.chgP {w' : World} {Q : Nat → Prop} (h : FP w0 w x S N P) (hc : Chg Q w w') (hQ : ∀ b, Q b → P b) (hQ0 : ∀ b, Q b → w0.heap.size ≤ b) : FP w0 w' x S N (And' P w.heap.size w'.heap.size) := by
  obtain ⟨B, h1, h2, h3, h4⟩ := h
  have hs := hc.size
  exact ⟨B, h1.chg hc fun g hg hq => (h2 g hg).2.2 (hQ g hq), fun b hb => ⟨(h2 b hb).1, by have := (h2 b hb).2.1; omega, fun hp => hp.elim (h2 b hb).2.2 fun h => by have := (h2 b hb).2.1; omega⟩, hc.ext h3 hQ0, fun b hb => hb.elim (fun h => by have := h4 b h; omega) fun h => h.2⟩
end
/-- a grouping's keys -/
def keysS (S : SAbs) (g : List Nat) : List (List V) := arrP (S.rows.map (keyR g))
theorem KeysOk.eq {S : SAbs} {g : List Nat} {K : List (List V)} (h : KeysOk S g K) : K = keysS S g := by
  refine arr_eq ?_ fun x => ?_
  · have h2 := h.nd
    unfold List.Nodup at h2
    refine (h.le.and h2).imp ?_
    intro a b hab
    have h5 : cmpR a b ≠ 0 := fun e => hab.2 ((isCmp_row.eq a b).1 e)
    have := hab.1
    omega
  · rw [h.mem, List.mem_map]
theorem keysS_len (S : SAbs) (g : List Nat) : (keysS S g).length ≤ S.rows.length := by
  have := arr_len (S.rows.map (keyR g))
  rwa [List.length_map] at this
/-- all groups of the first m groupings -/
def hadS (S : SAbs) : Nat → List (List (List V))
  | 0 => []
  | m + 1 => hadS S m ++ (keysS S (S.gs[m]?.getD [])).map fun key => grpS S m key
/-- lists of rows that are told -/
def HadAt (w : World) (P : Nat → Prop) (A : Option Addr) (n c : Nat) (L : List (List (List V))) : Prop :=
  n = L.length ∧ ∃ cells, OwnH w P 22 1 n (.slice A n c) cells ∧ ∀ (i : Nat) (rows : List (List V)), L[i]? = some rows → ∃ Ai ci, cells[i]? = some (.slice Ai rows.length ci) ∧ Told w P Ai rows.length ci rows
theorem HadAt.nil (w : World) (P : Nat → Prop) : HadAt w P none 0 0 [] := ⟨rfl, [], OwnH.nil _ _ _ _, fun i rows h => by simp at h⟩
theorem HadAt.keep {w w' : World} {P Q : Nat → Prop} {A : Option Addr} {n c : Nat} {L : List (List (List V))} (h : HadAt w P A n c L) (hw : Keeps P w w') (hq : ∀ b, P b → Q b) : HadAt w' Q A n c L := by
  obtain ⟨h1, cells, h2, h3⟩ := h
  refine ⟨h1, cells, (h2.chg hw fun g hg h => h hg).mono hq, fun i rows hi => ?_⟩
  obtain ⟨Ai, ci, h4, h5⟩ := h3 i rows hi
  exact ⟨Ai, ci, h4, h5.keep hw hq⟩
theorem HadAt.ext {w w' : World} {P Q : Nat → Prop} {A : Option Addr} {n c : Nat} {L : List (List (List V))} (h : HadAt w P A n c L) (hw : Ext w w') (hq : ∀ b, P b → Q b) : HadAt w' Q A n c L := h.keep (Chg.of hw) hq
theorem Told.grown {w w' : World} {P Q : Nat → Prop} {A : Option Addr} {n c : Nat} {rows : List (List V)} (h : Told w P A n c rows) {base : Nat} {v2 : Value} {n2 : Nat} {xs2 : List Value} (h2 : w.ownsRow base 22 1 v2 n2 xs2) (hg : w.grownBy w' v2.ownBlock) (hq : ∀ b, P b → Q b) : Told w' Q A n c rows := by
  obtain ⟨h1, cells, h3, h4⟩ := h
  refine ⟨h1, cells, (h3.grown h2 (by decide) hg).mono hq, h4.mono fun cs r hx => ?_⟩
  obtain ⟨A, n, c, e, ho⟩ := hx
  exact ⟨A, n, c, e, (ho.grown h2 (by decide) hg).mono hq⟩
/-- one list more -/
theorem HadAt.push {w w' : World} {P : Nat → Prop} {A A' : Option Addr} {n c c' : Nat} {L : List (List (List V))} (h : HadAt w P A n c L) {rows : List (List V)} {Ar : Option Addr} {cr : Nat} (hr : Told w P Ar rows.length cr rows) {xs : List Value}
    (ho : OwnH w P 22 1 n (.slice A n c) xs) (hx : ∀ (i : Nat) (rows : List (List V)), L[i]? = some rows → ∃ Ai ci, xs[i]? = some (.slice Ai rows.length ci) ∧ Told w P Ai rows.length ci rows)
    (o8 : OwnH w' (fun b => P b ∨ b = w.heap.size) 22 1 (n + 1) (.slice A' (n + 1) c') (xs ++ [.slice Ar rows.length cr])) (G8 : w.grownBy w' (Value.slice A n c).ownBlock) : HadAt w' (And' P w.heap.size w'.heap.size) A' (n + 1) c' (L ++ [rows]) := by
  have hn := h.1
  have hq : ∀ b, P b → And' P w.heap.size w'.heap.size b := fun b hb => .inl hb
  refine ⟨by rw [List.length_append, hn]; rfl, _, ⟨o8.own, fun g hg => (o8.inB g hg).imp id fun e => ⟨by omega, o8.lt g hg⟩⟩, fun i rs hi => ?_⟩
  have hlen : xs.length = n := by have := ho.own.1; omega
  rcases Nat.lt_or_ge i L.length with hl | hl
  · rw [List.getElem?_append_left hl] at hi
    obtain ⟨Ai, ci, e, ht⟩ := hx i rs hi
    exact ⟨Ai, ci, by rw [List.getElem?_append_left (by omega)]; exact e, ht.grown ho.own G8 hq⟩
  · rw [List.getElem?_append_right hl] at hi
    have hi0 : i - L.length = 0 := by
      have := (List.getElem?_eq_some_iff.1 hi).1
      simp at this; omega
    rw [hi0] at hi
    obtain rfl : rows = rs := by simpa using hi
    exact ⟨Ar, cr, by rw [List.getElem?_append_right (by omega), show i - xs.length = 0 by omega]; rfl, hr.grown ho.own G8 hq⟩
/-- the list at a place -/
theorem HadAt.get {w : World} {P : Nat → Prop} {A : Option Addr} {n c : Nat} {L : List (List (List V))} (h : HadAt w P A n c L) {i : Nat} {rows : List (List V)} (hi : L[i]? = some rows) : ∃ b Ai ci, A = some ⟨b, 0, none⟩ ∧ w.cell? ⟨b, i, none⟩ = some (.slice Ai rows.length ci) ∧ Told w P Ai rows.length ci rows := by
  obtain ⟨h1, cells, h2, h3⟩ := h
  have hl := (List.getElem?_eq_some_iff.1 hi).1
  obtain ⟨Ai, ci, e, ht⟩ := h3 i rows hi
  obtain ⟨b, eA, -, -, hc, -⟩ := h2.at_ (by omega)
  exact ⟨b, Ai, ci, eA, hc i _ e, ht⟩
end Go.Proofs.YtifloafhpeeepaaGreat
