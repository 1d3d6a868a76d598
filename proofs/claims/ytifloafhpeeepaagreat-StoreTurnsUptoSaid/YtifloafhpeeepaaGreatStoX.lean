/-
  store: Drop.
-/
import Derived.Test.YtifloafhpeeepaaGreatStoW
namespace Go.Proofs.YtifloafhpeeepaaGreat
open Go.RowKit

/-- without this row -/
def delR (r : List V) : List (List V) → List (List V)
  | [] => []
  | q :: l => if sameR q r then l else q :: delR r l
theorem delR_at {r : List V} : ∀ {A B : List (List V)}, r ∉ A → delR r (A ++ r :: B) = A ++ B
  | [], B, _ => by simp [delR, sameR_iff.2 (rfl : r = r)]
  | q :: A, B, h => by
    have h1 : sameR q r = false := by
      cases hs : sameR q r with
      | false => rfl
      | true => exact absurd (List.mem_cons.2 (.inl (sameR_iff.1 hs).symm)) h
    rw [List.cons_append, delR, h1, if_neg (by simp), delR_at fun hm => h (List.mem_cons_of_mem _ hm)]
    rfl
/-- a Drop, plain -/
def dropS (S : SAbs) (r : List V) : SAbs × Bool × Int :=
  if fitsR S.width r then if inB S.rows r then ({ S with rows := delR r S.rows }, true, 0) else (S, false, 0) else (S, false, 62)
theorem rows_del {v : StV} (hr : StRow v) {P1 P2 : List SRow} {s : Nat} {r : List V} (hP : v.P = P1 ++ (s, r) :: P2) : delR r (v.P.map (·.2)) = (P1 ++ P2).map (·.2) := by
  have hnd := hr.vals
  rw [hP, List.map_append, List.map_cons] at hnd ⊢
  rw [delR_at, List.map_append]
  rw [List.nodup_append] at hnd
  intro hm
  exact hnd.2.2 r hm r (by simp) rfl
/-- a row went, there is no mark -/
theorem StOk.drop {v v' : StV} {D D' : Nat → List (List V × Nat)} {N s : Nat} {P0 : List SRow} {F0 : List Nat} {P' : List SRow} (h : StOk v D N P0 F0) (hl : Unlinked (v.tick 1) v' s P') (ha : StAt v' D' (N + 1 - puts v.U)) (hm : v.marked = false) : StOk v' D' (N + 1) v'.P (fsOf v'.most v'.sl v'.fr) := by
  have hU : v'.U = v.U := hl.kept.U
  have h0 := h.idle hm
  have hK := hl.K
  have hK1 := h.K
  have hk := kBound_add N (Nat.le_refl 1)
  rw [show (v.tick 1).K = v.K + 1 from rfl] at hK
  refine ⟨ha.row, ha.lan, ha.gen.mono (by rw [hU]; exact Nat.le_refl _), by rw [hU]; have := h.pu; omega, by rw [hU]; omega, by rw [hU, h0.1]; exact Nat.zero_le _, by rw [hU, h0.1]; exact .nil, fun _ => ⟨hU.trans h0.1, hl.kept.un.trans h0.2.1, hl.kept.uA.trans h0.2.2.1, hl.kept.uC.trans h0.2.2.2⟩⟩
theorem SEq.drop {S : SAbs} {x : Nat} {v v' : StV} {P0 : List SRow} {P1 P2 : List SRow} {s : Nat} {r : List V} (h : SEq S x v P0) (hr : StRow v) (hP : v.P = P1 ++ (s, r) :: P2) (hl : Unlinked (v.tick 1) v' s (P1 ++ P2)) (hm : v.marked = false) : SEq { S with rows := delR r S.rows } x v' v'.P := by
  refine ⟨hl.kept.x.trans h.x, h.width.trans hl.kept.width.symm, h.most.trans hl.kept.most.symm, h.gs.trans hl.kept.gs.symm, ?_, hl.kept.marked.trans h.mark, fun o ho => ?_⟩
  · show delR r S.rows = v'.P.map (·.2)
    rw [hl.P, h.rows, rows_del hr hP]
  · have h1 := h.mark
    rw [hm] at h1
    have ho' : S.old = some o := ho
    rw [ho'] at h1
    cases h1
/-- a row went behind the mark -/
theorem StOk.dropM {v v' : StV} {D D' : Nat → List (List V × Nat)} {N s : Nat} {P0 : List SRow} {F0 : List Nat} {P1 P2 : List SRow} {r : List V} (h : StOk v D N P0 F0) (hP : v.P = P1 ++ (s, r) :: P2) (hl : Unlinked (v.tick 1) v' s (P1 ++ P2)) (ha : StAt v' D' (N + 1 - puts v.U)) (hm : v.marked = true) (hle : v.P.length ≤ v.most) {A8 : Option Addr} {c8 : Nat} {u : Value} {A : Option Addr} {n c : Nat} {H : Option Addr} {m d : Nat} :
    StOk { v' with uA := A8, uC := c8, un := v'.un ++ [u], U := v'.U ++ [.drop r A n c (aheads v.gs r P2) H m d] } D' (N + 1) P0 F0 := by
  have hU : v'.U = v.U := hl.kept.U
  have hK := hl.K
  have hK1 := h.K
  have hk := kBound_add N (Nat.le_refl 1)
  have hpu := h.pu
  have hps : puts (v'.U ++ [.drop r A n c (aheads v.gs r P2) H m d]) = puts v.U := by rw [hU, puts_snoc]; rfl
  rw [show (v.tick 1).K = v.K + 1 from rfl] at hK
  have hr := ha.row
  refine ⟨⟨hr.width, hr.most, hr.gsl, hr.gs, hr.rows, hr.slots, hr.vals, hr.alive, hr.lv, hr.refs, hr.ents, hr.gx⟩, ha.lan, ha.gen.mono ?_, ?_, ?_, ?_, ?_, fun hf => ?_⟩
  · show N + 1 - puts v.U ≤ N + 1 - puts (v'.U ++ [.drop r A n c (aheads v.gs r P2) H m d])
    rw [hps]; exact Nat.le_refl _
  · show puts (v'.U ++ [.drop r A n c (aheads v.gs r P2) H m d]) ≤ N + 1
    rw [hps]; omega
  · show v'.K + 64 * (v'.U ++ [Und.drop r A n c (aheads v.gs r P2) H m d]).length ≤ kBound (N + 1)
    rw [List.length_append, List.length_singleton, hU]; omega
  · show (v'.U ++ [Und.drop r A n c (aheads v.gs r P2) H m d]).length ≤ (N + 1) * 65536
    rw [List.length_append, List.length_singleton, hU]
    have := h.ul; omega
  · show Hist (RowsOk v'.width v'.most) v'.gs P0 F0 (v'.U ++ [.drop r A n c (aheads v.gs r P2) H m d]) v'.P (fsOf v'.most v'.sl v'.fr)
    rw [hl.P, hl.fs, hU, show v'.gs = v.gs from hl.kept.gs, show v'.width = v.width from hl.kept.width, show RowsOk v.width v'.most = RowsOk v.width v.most by rw [show v'.most = v.most from hl.kept.most]]
    refine .drop (by rw [← hP]; exact ⟨h.row.rows, h.row.vals, hle⟩) ?_
    have h2 := h.hist
    rw [hP] at h2
    exact h2
  · have h1 : v'.marked = false := hf
    rw [show v'.marked = v.marked from hl.kept.marked, hm] at h1
    cases h1
theorem SEq.dropM {S : SAbs} {x : Nat} {v v' : StV} {P0 : List SRow} {P1 P2 : List SRow} {s : Nat} {r : List V} (h : SEq S x v P0) (hr : StRow v) (hP : v.P = P1 ++ (s, r) :: P2) (hl : Unlinked (v.tick 1) v' s (P1 ++ P2)) {A8 : Option Addr} {c8 : Nat} {un : List Value} {U : List Und} :
    SEq { S with rows := delR r S.rows } x { v' with uA := A8, uC := c8, un := un, U := U } P0 := by
  refine ⟨hl.kept.x.trans h.x, h.width.trans hl.kept.width.symm, h.most.trans hl.kept.most.symm, h.gs.trans hl.kept.gs.symm, ?_, hl.kept.marked.trans h.mark, fun o ho => h.old o ho⟩
  show delR r S.rows = v'.P.map (·.2)
  rw [hl.P, h.rows, rows_del hr hP]
theorem StAt.tick {v : StV} {D : Nat → List (List V × Nat)} {N : Nat} (h : StAt v D N) (k : Nat) : StAt (v.tick k) D N :=
  have hr := h.row
  ⟨⟨hr.width, hr.most, hr.gsl, hr.gs, hr.rows, hr.slots, hr.vals, hr.alive, hr.lv, hr.refs, hr.ents, hr.gx⟩, h.lan, h.gen⟩
theorem cl_ok' {u : Nat} (h : u ≤ 549755813888) : u + 1 ≤ maxLen ∧ (u + 1) * 8 ≤ 140737488355328 := by unfold maxLen; omega
/-- what a Drop leaves of the parts -/
def DropSays (w : World) (lab : Lab) (v : StV) (M : Nat) (r : List V) (e : Ending) (w' : World) : Prop :=
  (fitsR v.width r = false ∧ e = .returned (.tuple #[.bool false, .int .i64 62]) ∧ StR w lab w' (v.tick 1)) ∨
  (fitsR v.width r = true ∧ r ∉ v.P.map (·.2) ∧ e = .returned (.tuple #[.bool false, .int .i64 0]) ∧ StR w lab w' (v.tick 1)) ∨
  (fitsR v.width r = true ∧ ∃ (P1 P2 : List SRow) (s : Nat) (v' : StV) (D' : Nat → List (List V × Nat)), v.P = P1 ++ (s, r) :: P2 ∧ Unlinked (v.tick 1) v' s (P1 ++ P2) ∧ StAt v' D' M ∧ e = .returned (.tuple #[.bool true, .int .i64 0]) ∧
    ((v.marked = false ∧ StR w lab w' v') ∨ (v.marked = true ∧ ∃ (A8 : Option Addr) (c8 : Nat) (u : Value) (A : Option Addr) (n c : Nat) (H : Option Addr) (m d : Nat), StR w lab w' { v' with uA := A8, uC := c8, un := v'.un ++ [u], U := v'.U ++ [.drop r A n c (aheads v.gs r P2) H m d] })))
set_option maxRecDepth 100000 in
set_option maxHeartbeats 2000000 in
theorem drop_core {w : World} {lab : Lab} {v : StV} {D : Nat → List (List V × Nat)} {N M : Nat} (h : StM w lab v) (hat : StAt v D N) (g1 : ∀ i, genA v.sl i < M) (g2 : ∀ i, genA v.sL i < M) (hM : M ≤ 1073741824) (hK : v.K ≤ 4611686018427370000) (hul : v.U.length ≤ 549755813888) {r : List V} {A : Option Addr} {n : Nat} (c : Nat) (ha : ArgR w A n r) (hB : Aside lab.dom A) :
    Calls Tryz.prog 30 #[.pointer (some ⟨v.x, 0, none⟩), .slice A n c] w (DropSays w lab v M r) := by
  obtain ⟨x, hx⟩ : ∃ x, v.x = x := ⟨_, rfl⟩
  have hE1 := Ext.alloc w (.cells #[.pointer (some ⟨x, 0, none⟩)] 23)
  have HM := hide (h.ext hE1)
  have HA := hide (ha.ext hE1)
  have HF := hide (fits_any (h.ext hE1) c (ha.ext hE1))
  have HS := hide (fun (w2 : World) (h2 : Ext (w.alloc (.cells #[.pointer (some ⟨x, 0, none⟩)] 23)) w2) => slot_any ((h.ext hE1).ext h2) (by omega) c ((ha.ext hE1).ext h2) (by have := pk_le r; omega))
  have SB := hide (Blk.new w 23 #[.pointer (some ⟨x, 0, none⟩)])
  have HE1 := hide hE1
  have HH := hide h; have HAT := hide hat; have HG := hide (And.intro g1 g2); have HSP := hide (fun (o : Option Int) (ho : SlotAt v r o) => show SlotSays v r o from ho.spec hat.row ha.wf); have HAS := hide hB; have HA0 := hide ha
  have HT := hide (hat.tick 1)
  rw [hx] at HF HS ⊢
  have HX := hide hx
  clear h hat g1 g2 hB ha hE1 hx
  go_enter Tryz.func30, Tryz.ntmps30
  go_upto_region 1 with fail
  generalize w.alloc (.cells #[.pointer (some ⟨x, 0, none⟩)] 23) = w1 at *
  obtain ⟨sb, hsb⟩ : ∃ sb, w.heap.size = sb := ⟨_, rfl⟩
  rw [hsb] at SB ⊢
  have HSB := hide hsb
  clear hsb
  have s0 : w1.cell? ⟨sb, 0, none⟩ = some (.pointer (some ⟨x, 0, none⟩)) := SB.out.cell 0
  cases hf : fitsR v.width r with
  | false =>
    rw [hf] at HF
    have HFF := hide hf
    clear hf
    go_wp2_with ((with_reducible refine HF.out.mono ?_); rintro e w2 ⟨rfl, h2⟩; have X2 := hide h2; clear h2)
    go_ret2
    exact Or.inl ⟨HFF.out, rfl, (HM.out.same X2.out 1).pre HE1.out⟩
  | true =>
    rw [hf] at HF
    have HFT := hide hf
    clear hf
    go_upto_region 4 with (first
      | ((with_reducible refine HF.out.mono ?_); rintro e w2 ⟨rfl, h2⟩; have X2 := hide h2; have s0 := (SB.out.ext h2).cell 0; clear h2)
      | ((with_reducible refine (HS.out w2 X2.out).mono ?_); rintro e w3 ⟨o, h12, rfl, h3⟩; have O2 := hide (HSP.out _ h12); have S3 := hide h3; clear h12 h3))
    cases o with
    | none =>
      dsimp only [Option.getD]
      go_wp2_with fail
      go_ret2
      exact Or.inr (Or.inl ⟨HFT.out, O2.out.2 rfl, rfl, (S3.out.pre X2.out).pre HE1.out⟩)
    | some z =>
      obtain ⟨s, rfl, hsP⟩ := O2.out.1 z rfl
      obtain ⟨P1, P2, hP⟩ := List.append_of_mem hsP
      have HP := hide hP
      clear hsP hP
      obtain ⟨lab3, s3, d3, c3⟩ := S3.out
      have M3 := hide s3; have D3 := hide d3; have C3 := hide c3
      have hsbn : ¬ lab.dom sb := fun ⟨i, hi⟩ => by have := HH.out.lt _ _ hi; have := HSB.out; omega
      have SB3 := hide (c3.blk (SB.out.ext X2.out) hsbn)
      clear s3 d3 c3 S3
      have s0 : w3.cell? ⟨sb, 0, none⟩ = some (.pointer (some ⟨x, 0, none⟩)) := SB3.out.cell 0
      have hs00 : ¬ (s : Int) < 0 := by omega
      dsimp only [Option.getD]
      have hsb3 := hide (show ¬ lab3.dom sb from fun hd => (D3.out sb hd).elim hsbn fun h => by have h1 := SB.out.ext X2.out |>.lt; omega)
      have HUn := hide (unlink_any M3.out (D := D) (N := N) (M := M) HT.out HG.out.1 HG.out.2 hM (by show v.K + 1 ≤ _; omega) (P1 := P1) (P2 := P2) (s := s) (r := r) HP.out)
      rw [show (v.tick 1).x = v.x from rfl, HX.out] at HUn
      rw [show (v.tick 1).L = v.L from rfl, show (v.tick 1).gs = v.gs from rfl] at HUn
      have HC3 := hide (show Step w lab w3 lab3 from ⟨fun b hb => (D3.out b hb).imp id fun h => by have h1 := HE1.out.size; have h2 := X2.out.size; omega, (Chg.of (HE1.out.trans X2.out)).trans' C3.out⟩)
      go_upto_region 7 with ((with_reducible refine HUn.out.mono ?_); rintro e w9 ⟨bh, v9, D9, rfl, hl9, hbh, hob, ⟨lab9, m9, d9, c9, nb9⟩, a9⟩; have L9 := hide hl9; have BH := hide (And.intro hbh hob); have M9 := hide m9; have D9' := hide d9; have C9 := hide c9; have NBH := hide nb9; have A9 := hide a9; clear hl9 hbh hob m9 d9 c9 nb9 a9)
      have hE10 := hide (Ext.alloc w9 (.cells #[.slice (some ⟨bh, 0, none⟩) v.L v.L] 27))
      have HB10 := hide (Blk.new w9 27 #[.slice (some ⟨bh, 0, none⟩) v.L v.L])
      obtain ⟨w10, hw10⟩ : ∃ w10, w9.alloc (.cells #[.slice (some ⟨bh, 0, none⟩) v.L v.L] 27) = w10 := ⟨_, rfl⟩
      rw [hw10] at hE10 HB10 ⊢
      clear hw10
      obtain ⟨hb, hhb⟩ : ∃ hb, w9.heap.size = hb := ⟨_, rfl⟩
      rw [hhb] at HB10 ⊢
      have HHB := hide hhb
      clear hhb
      have hx9 : v9.x = x := L9.out.kept.x.trans HX.out
      have HX9 := hide hx9
      have HST := hide (step_pre (step_on HC3.out ⟨D9'.out, C9.out⟩) hE10.out)
      have M10 := hide (M9.out.ext hE10.out)
      have SB9 := hide (C9.out.blk SB3.out hsb3.out)
      have SB10 := hide (SB9.out.ext hE10.out)
      have NB9 := hide (show ¬ lab9.dom sb ∧ ¬ lab9.dom hb from ⟨fun hd => (D9'.out _ hd).elim hsb3.out fun h => by have := SB3.out.lt; omega, fun ⟨i, hi⟩ => by have := M9.out.lt _ _ hi; have := HHB.out; omega⟩)
      have s0 : w10.cell? ⟨sb, 0, none⟩ = some (.pointer (some ⟨x, 0, none⟩)) := SB10.out.cell 0
      have a11 : w10.cell? ⟨x, 11, none⟩ = some (.bool v9.marked) := by rw [← hx9]; exact M10.out.str.cell 11
      have hmk := hide (show v9.marked = v.marked from L9.out.kept.marked)
      clear hx9
      cases hm9 : v9.marked with
      | false =>
        rw [hm9] at a11
        have HM9 := hide hm9
        clear hm9
        go_wp2_with fail
        go_ret2
        exact Or.inr (Or.inr ⟨HFT.out, P1, P2, s, v9, D9, HP.out, L9.out, A9.out, rfl, .inl ⟨hmk.out.symm.trans HM9.out, lab9, M10.out, HST.out.1, HST.out.2⟩⟩)
      | true =>
        rw [hm9] at a11
        have HM9 := hide hm9
        clear hm9
        have hw03 : w.heap.size ≤ w3.heap.size := HC3.out.2.size
        have HA3 := HA.out.ext X2.out |>.chg (fun a ha hd => HAS.out a ha hd) C3.out
        have HA10 := hide ((HA3.chgS (HA0.out.at_.2.lt' (by omega)) (fun a ha hl hd => (D3.out _ hd).elim (fun h => HAS.out a ha h) fun h => by have h1 := HE1.out.size; have h2 := X2.out.size; omega) C9.out).ext hE10.out)
        have HCl := hide (cloneV (cellsR r) A n c w10 HA10.out.at_.2 (cellsR_one r) (by have := HA0.out.len; omega))
        clear HA3
        go_upto_region 9 with ((with_reducible refine HCl.out.mono ?_); rintro e w11 ⟨A7, c7, rfl, h7, x7⟩; have O7 := hide h7; have X7 := hide x7; clear h7 x7)
        obtain rfl : n = r.length := HA0.out.at_.len
        have hK8 := hide (Blk.new w11 30 #[.slice A7 r.length c7])
        have hE8 := hide (Ext.alloc w11 (.cells #[.slice A7 r.length c7] 30))
        obtain ⟨w12, hw12⟩ : ∃ w12, w11.alloc (.cells #[.slice A7 r.length c7] 30) = w12 := ⟨_, rfl⟩
        rw [hw12] at hK8 hE8 ⊢
        clear hw12
        have X8 := hide (X7.out.trans hE8.out)
        have hkb := hide (show w10.heap.size ≤ w11.heap.size ∧ w11.heap.size < w12.heap.size from ⟨X7.out.size, hK8.out.lt⟩)
        have O8 := hide (hid_keep O7.out hE8.out)
        have hlt7 := hide (show ∀ a, A7 = some a → w10.heap.size ≤ a.block ∧ a.block < w11.heap.size from fun a ha => ⟨own_ge O7.out a ha, (O7.out.lt a.block (by rw [ha]; rfl)).2⟩)
        generalize w11.heap.size = kb at *
        have SB12 := hide (SB10.out.ext X8.out); have HB12 := hide (HB10.out.ext X8.out); have OBH := hide (hid_keep (hid_keep BH.out.2 hE10.out) X8.out)
        have hbhl := hide (show bh < w9.heap.size from (BH.out.2.lt bh rfl).2)
        have M11 := hide (M10.out.ext X8.out)
        have hl10 := hE10.out.size
        have M12 := hide (M11.out.adopt (C := fun b => b = sb ∨ b = kb ∨ b = hb ∨ b = bh ∨ ∃ a, A7 = some a ∧ a.block = b) (fun b hb' => by
          rcases hb' with rfl | rfl | rfl | rfl | ⟨a, ha, rfl⟩
          · exact ⟨SB12.out.lt, NB9.out.1⟩
          · exact ⟨hkb.out.2, fun ⟨i, hi⟩ => by have := M10.out.lt _ _ hi; have := hkb.out.1; omega⟩
          · exact ⟨HB12.out.lt, NB9.out.2⟩
          · exact ⟨by have h1 := hbhl.out; have h3 := X8.out.size; omega, NBH.out⟩
          · exact ⟨by have h1 := (hlt7.out a ha).2; have h2 := hkb.out.2; omega, fun ⟨i, hi⟩ => by have := M10.out.lt _ _ hi; have := (hlt7.out a ha).1; omega⟩))
        have hmf : ∀ (fn : Fn) (first cap : Array Value) (w : World), (Instr.makeFunc fn first cap).run Tryz.prog w = .ok (.func fn first cap) w := fun _ _ _ _ => rfl
        obtain ⟨hxb, hxin, -, hun⟩ := M12.out.part 0
        have HUN := hide hun; have HXB := hide hxb
        have hlen := (M12.out.part 8).2.1
        have HUL := hide (show v9.un.length ≤ 549755813888 by rw [← hlen, L9.out.kept.U]; exact hul)
        have hz : UndAt w12 ((lab9.with_ 8 (fun b => b = sb ∨ b = kb ∨ b = hb ∨ b = bh ∨ ∃ a, A7 = some a ∧ a.block = b)).own 8) v9.x (.func (.func 58) #[] #[.pointer (some ⟨sb, 0, none⟩), .pointer (some ⟨kb, 0, none⟩), .pointer (some ⟨hb, 0, none⟩)]) (.drop r A7 r.length c7 (aheads v.gs r P2) (some ⟨bh, 0, none⟩) v.L v.L) :=
          ⟨sb, kb, hb, rfl, by rw [HX9.out]; exact SB12.out, Lab.with_own (.inl rfl), hK8.out, Lab.with_own (.inr (.inl rfl)), ⟨RowAt.own O8.out, fun a ha => Lab.with_own (.inr (.inr (.inr (.inr ⟨a, ha, rfl⟩))))⟩, HB12.out, Lab.with_own (.inr (.inr (.inl rfl))), ⟨NumAt.own OBH.out, fun a ha => by injection ha with ha; subst ha; exact Lab.with_own (.inr (.inr (.inr (.inl rfl))))⟩⟩
        have HZ := hide hz
        clear hxb hxin hun hz hlen a11 s0
        have s0 : w12.cell? ⟨sb, 0, none⟩ = some (.pointer (some ⟨x, 0, none⟩)) := SB12.out.cell 0
        have a12 : w12.cell? ⟨x, 12, none⟩ = some (.slice v9.uA v9.un.length v9.uC) := by rw [← HX9.out]; exact M12.out.str.cell 12
        have s0 := cell_ext s0
        have a12 := cell_ext a12
        refine wp_region_extz 7 (fun w' => w'.cell? ⟨sb, 0, none⟩ = some (.pointer (some ⟨x, 0, none⟩))) _ rfl ?_ ?_ ?_ ?_ ?_ ?_
        · kernel_rfl
        · kernel_rfl
        · assumption
        · kernel_rfl
        · exact fun _ _ _ _ _ h => h
        refine ⟨_, _, ?_, rfl, ?_⟩; rotate_left
        refine ⟨⟨by kernel_rfl, fun w9 h9 => ?_⟩, fun _ _ _ h => h, fun K hK => ?_⟩
        · go_simp; first | done | rfl
        go_simp; refine hK _ _ ?_; clear hK K
        iterate 5
          refine wpE_k (by kernel_rfl) (by kernel_rfl) ?_
          apply Exists.intro
          refine ⟨fun w1 hw1 => ?_, fun K hK => ?_⟩
          · go_simp; first | done | rfl
          go_simp; refine hK _ _ ?_; clear hK K
        refine wpE_p [] (fun u w1 => ∃ gb, u = .slice (some ⟨gb, 0, none⟩) 1 1 ∧ Blk w1 gb 1 #[.func (.func 58) #[] #[.pointer (some ⟨sb, 0, none⟩), .pointer (some ⟨kb, 0, none⟩), .pointer (some ⟨hb, 0, none⟩)]]) (fun u w1 w2 _ h2 ⟨gb, h3, h4⟩ => ⟨gb, h3, h4.ext h2⟩) rfl (by kernel_rfl) (fun w1 hw1 => ?_) ?_
        · clear a12
          simp only [LookQ]
          go_simp
          exact ⟨Ext.alloc _ _, Blk.new _ _ _⟩
        refine wpE_nil ⟨rfl, by kernel_rfl, fun wa hwa => ?_⟩
        simp only [EndQ]
        rintro _ ⟨gb, rfl, hgb⟩
        simp only [List.drop, List.take, List.dropLast]
        have HS := hide (show Sl wa (some ⟨gb, 0, none⟩) 1 1 [.func (.func 58) #[] #[.pointer (some ⟨sb, 0, none⟩), .pointer (some ⟨kb, 0, none⟩), .pointer (some ⟨hb, 0, none⟩)]] from hgb.sl rfl)
        have HONE := hide (show OneCells [Value.func (.func 58) #[] #[.pointer (some ⟨sb, 0, none⟩), .pointer (some ⟨kb, 0, none⟩), .pointer (some ⟨hb, 0, none⟩)]] from fun v hv => by simp at hv; rw [hv]; rfl)
        have MA := hide (M12.out.ext hwa); have UA := hide (HUN.out.ext hwa); have XA := hide (HXB.out.ext hwa); have ZA := hide (UndAt.chg (C := fun _ => False) (Chg.of hwa) (fun _ _ h => h) HZ.out); have SA := hide (SB12.out.ext hwa); have EA := hide hwa
        clear s0 a12 hgb hwa HUN HXB HZ
        obtain ⟨i0, hi0, hz0, hz1, hz2⟩ := info_parts infoFn
        have hcl := cl_ok' HUL.out
        go_wp2_with (at_builtin; refine wpList_append_b rfl (.tmp 31) (.tmp 33) _ rfl ((lab9.with_ 8 (fun b => b = sb ∨ b = kb ∨ b = hb ∨ b = bh ∨ ∃ a, A7 = some a ∧ a.block = b)).own 0) 1 i0 _ 1 8 Tryz.underlying76 hi0 hz0 hz1 hz2 rfl (by omega) (.slice v9.uA v9.un.length v9.uC) v9.un.length v9.un rfl UA.out _ 1 1 _ rfl HS.out HONE.out hcl.1 hcl.2 ?_; intro A8 c8 w8 own8 G8 C8)
        have hx8 := XA.out.grown G8.out (own_ne_blk UA.out.own XA.out (by decide))
        have hs8 := SA.out.grown G8.out (own_ne_blk UA.out.own SA.out (by decide))
        have HPush := hide (MA.out.push ZA.out own8.out G8.out C8.out)
        have HS8 := hide hs8
        have f12 : w8.frozen? ⟨x, 12, none⟩ = false := by rw [← HX9.out]; exact hx8.frozen 12
        have v12 : w8.cell? ⟨x, 12, none⟩ = some (.slice v9.uA v9.un.length v9.uC) := by rw [← HX9.out]; exact hx8.cell 12
        have hne : sb ≠ x := fun e => hsbn ⟨0, by rw [e, ← HX.out]; exact (HH.out.part 0).2.1⟩
        have HNE := hide hne
        rw [show (⟨v9.x, 12, none⟩ : Addr) = ⟨x, 12, none⟩ by rw [HX9.out]] at HPush
        simp only [exZ]
        refine ⟨hs8.cell 0, ?_⟩
        clear hx8 hs8 hne XA UA SA ZA own8 G8 C8
        unfold wpZ
        apply Exists.intro
        refine ⟨fun w9 => ?_, fun K hK => ?_⟩
        · go_simp; first | done | rfl
        go_simp; refine hK _ ?_; clear hK K
        unfold wpZ
        apply Exists.intro
        refine ⟨fun w9 => ?_, fun K hK => ?_⟩
        · go_simp; first | done | rfl
        go_simp; refine hK _ ?_; clear hK K
        unfold wpZ
        go_wp2_with fail
        refine ⟨(HS8.out.far (p := ⟨x, 12, none⟩) HNE.out _).cell 0, ?_⟩
        go_wp2_with fail
        go_ret2
        obtain ⟨labE, mE, dE, cE⟩ := HPush.out
        have hbw := hide (show w.heap.size ≤ bh from Nat.le_trans hw03 BH.out.1)
        have hst := step_on (show Step w lab wa (lab9.with_ 8 (fun b => b = sb ∨ b = kb ∨ b = hb ∨ b = bh ∨ ∃ a, A7 = some a ∧ a.block = b)) from ⟨fun b hd => (Lab.with_dom hd).elim (fun h => .inr (by
          have h1 := HST.out.2.size
          rcases h with rfl | rfl | rfl | rfl | ⟨a, ha, rfl⟩
          · rw [← HSB.out]; exact Nat.le_refl _
          · exact Nat.le_trans h1 hkb.out.1
          · rw [← HHB.out]; exact Nat.le_trans hw03 C9.out.size
          · exact hbw.out
          · exact Nat.le_trans h1 (hlt7.out a ha).1)) (HST.out.1 b), (step_pre (step_pre HST.out X8.out) EA.out).2⟩) ⟨dE, cE⟩
        exact Or.inr (Or.inr ⟨HFT.out, P1, P2, s, v9, D9, HP.out, L9.out, A9.out, rfl, .inr ⟨hmk.out.symm.trans HM9.out, _, _, _, _, _, _, _, _, _, labE, mE, hst.1, hst.2⟩⟩)
theorem drop_st {w : World} {B : Nat → Prop} {x : Nat} {S : SAbs} {N : Nat} (h : StI w B x S N) (hN : N + 1 ≤ 8388608) {r : List V} {A : Option Addr} {n : Nat} (c : Nat) (ha : ArgR w A n r) (hB : Aside B A) :
    Calls Tryz.prog 30 #[.pointer (some ⟨x, 0, none⟩), .slice A n c] w fun e w' => e = .returned (.tuple #[.bool (dropS S r).2.1, .int .i64 (dropS S r).2.2]) ∧ StS w B x (dropS S r).1 (N + 1) w' := by
  obtain ⟨lab, v, D, P0, F0, h1, h2, h3, h4⟩ := h
  have hpu := h4.pu
  have hK := h4.K
  have hul := h4.ul
  have hk := kBound_le (N := N) (by omega)
  have hle : v.P.length ≤ v.most := by have h5 := (h1.part 2).ok.live; have h6 := (h1.part 2).ok.len; have h7 := h4.row.lv; omega
  have hcore := drop_core h1 (D := D) (N := N) (M := N + 1 - puts v.U) h4.at_ (fun i => by have h9 := h4.gen.s i; omega) (fun i => by have h9 := h4.gen.L i; omega) (by omega) (by omega) (by omega) c ha (fun a ha hd => hB a ha (h2 _ hd))
  rw [h3.x] at hcore
  refine hcore.mono ?_
  rintro e w' (⟨hf, rfl, hs⟩ | ⟨hf, hn, rfl, hs⟩ | ⟨hf, P1, P2, s, v', D', hP, hU, hA, rfl, hm⟩)
  · have hput : dropS S r = (S, false, 62) := by unfold dropS; rw [h3.width, hf]; rfl
    rw [hput]
    exact ⟨rfl, StS.of h2 hs (h3.tick 1) (h4.tick 1 1 (by omega) (Nat.le_refl _))⟩
  · have hput : dropS S r = (S, false, 0) := by
      unfold dropS
      rw [h3.width, hf, show inB S.rows r = false by rw [Bool.eq_false_iff, ne_eq, inB_iff, h3.rows]; exact hn]; rfl
    rw [hput]
    exact ⟨rfl, StS.of h2 hs (h3.tick 1) (h4.tick 1 1 (by omega) (Nat.le_refl _))⟩
  · have hput : dropS S r = ({ S with rows := delR r S.rows }, true, 0) := by
      unfold dropS
      rw [h3.width, hf, show inB S.rows r = true by rw [inB_iff, h3.rows, hP]; simp]; rfl
    rw [hput]
    rcases hm with ⟨hm, hs⟩ | ⟨hm, A8, c8, u, A', n', c', H, m, d, hs⟩
    · exact ⟨rfl, StS.of h2 hs (h3.drop h4.row hP hU hm) (h4.drop hU hA hm)⟩
    · exact ⟨rfl, StS.of h2 hs (h3.dropM h4.row hP hU) (h4.dropM hP hU hA hm hle)⟩
end Go.Proofs.YtifloafhpeeepaaGreat
