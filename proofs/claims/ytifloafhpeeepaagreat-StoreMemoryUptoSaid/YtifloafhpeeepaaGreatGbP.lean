/-
  store: Keys.
  Does a row stand in a list?
  The groups of a grouping are the rows: plain.
-/
import Derived.Test.YtifloafhpeeepaaGreatStgA
import Derived.Test.YtifloafhpeeepaaGreatGaO
import Derived.Test.YtifloafhpeeepaaGreatGaQ
import Derived.Test.YtifloafhpeeepaaGreatGaD
namespace Go.Proofs.YtifloafhpeeepaaGreat
open Go.RowKit

theorem key_parts {r : List V} (hv : validR r = true) : r.length ≤ 30 ∧ r.all validV = true := by
  unfold validR at hv
  simpa using hv
theorem dec_pk {key : List V} (hv : validR key = true) (hw : wfR key) : decR (pk key) = (key, 0) := by
  obtain ⟨h3, h4⟩ := key_parts hv
  rw [pk_valid hv]
  unfold decR
  rw [dec_pack 30 key h4 (fun v hv => (hw v hv).2) h3]
/-- one row more is told -/
theorem MineV.push {b : Nat} {w w8 : World} {A A8 : Option Addr} {n c c8 : Nat} {rows : List (List V)} {x : List V} {Ay : Option Addr} {n9 cy : Nat} {cells : List Value} (h1 : n = rows.length) (h4 : w.ownsRow b 30 1 (.slice A n c) n cells) (h5 : Els (RMine b) 1 w cells rows) (h6 : w.ownsRow b 43 3 (.slice Ay n9 cy) n9 (cellsR x))
    (hg : w.grownBy w8 (Value.slice A n c).ownBlock) (h8 : w8.ownsRow b 30 1 (.slice A8 (n + 1) c8) (n + 1) (cells ++ [.slice Ay n9 cy])) : MineV b w8 A8 (n + 1) c8 (rows ++ [x]) := by
  have key : ∀ (cs : List Value) (r : List V), RMine b w cs r → RMine b w8 cs r := fun cs r hx => hx.other h4 (by decide) hg
  refine ⟨_, by rw [List.length_append, h1]; rfl, h8, ?_⟩
  exact (h5.mono key).append (Els.single rfl (fun v hv => by obtain rfl := List.mem_singleton.1 hv; rfl) (key _ _ ⟨Ay, n9, cy, rfl, h6⟩))
theorem MineV.ext {b : Nat} {w w' : World} {A : Option Addr} {n c : Nat} {rows : List (List V)} (h : MineV b w A n c rows) (hw : Ext w w') : MineV b w' A n c rows := by
  obtain ⟨cells, h1, h2, h3⟩ := h
  exact ⟨cells, h1, mine_ext h2 hw, h3.mono fun cs r hx => RMine.stab _ _ _ _ _ hw hx⟩
/-- a grouping's keys, as they are told -/
structure KeysOk (S : SAbs) (g : List Nat) (K : List (List V)) : Prop where
  nd : K.Nodup
  mem : ∀ key, key ∈ K ↔ ∃ r ∈ S.rows, keyR g r = key
  le : K.Pairwise fun a b => cmpR a b ≤ 0
  good : ∀ key ∈ K, KeyGood g key
/-- what the index tells, is the keys -/
theorem keys_ok {S : SAbs} {g : List Nat} {D : List (List V × Nat)} {E : Ents} {ps : List KP} (hgood : ∀ d ∈ D, KeyGood g d.1) (hmem : ∀ key, key ∈ D.map (·.1) ↔ ∃ r ∈ S.rows, keyR g r = key) (hnd : (D.map (·.1)).Nodup) (hE : List.Perm E (D.map fun d => (pk d.1, (d.2 : Int)))) (hp : List.Perm (ps.map KP.r) (E.map (·.1))) (hs : ps.Pairwise kpLe) :
    KeysOk S g (ps.map fun p => (decR p.r).1) ∧ ∀ p ∈ ps, ∃ key, KeyGood g key ∧ p.r = pk key ∧ (decR p.r) = (key, 0) := by
  have hp2 : List.Perm (ps.map KP.r) (D.map fun d => pk d.1) := by
    refine hp.trans ?_
    have := hE.map (·.1)
    rw [List.map_map] at this
    exact this
  have hk : ∀ p ∈ ps, ∃ key, KeyGood g key ∧ p.r = pk key ∧ (decR p.r) = (key, 0) := fun p hpm => by
    obtain ⟨d, hd, e⟩ := List.mem_map.1 (hp2.mem_iff.1 (List.mem_map.2 ⟨p, hpm, rfl⟩))
    have hg := hgood d hd
    exact ⟨d.1, hg, e.symm, by rw [← e]; exact dec_pk hg.ok hg.wf⟩
  have hp3 : List.Perm (ps.map fun p => (decR p.r).1) (D.map (·.1)) := by
    have h1 := hp2.map fun b => (decR b).1
    rw [List.map_map, List.map_map] at h1
    refine h1.trans (List.Perm.of_eq (List.map_congr_left fun d hd => ?_))
    show (decR (pk d.1)).1 = d.1
    rw [dec_pk (hgood d hd).ok (hgood d hd).wf]
  refine ⟨⟨hp3.nodup_iff.2 hnd, fun key => hp3.mem_iff.trans (hmem key), ?_, fun key hkey => ?_⟩, hk⟩
  · rw [List.pairwise_map]
    refine List.Pairwise.imp_of_mem (fun {a b} ha hb hab => ?_) hs
    obtain ⟨ka, ga, ea, da⟩ := hk a ha
    obtain ⟨kb, gb, eb, db⟩ := hk b hb
    rw [da, db]
    unfold kpLe at hab
    rw [ea, eb, pk_valid ga.ok, pk_valid gb.ok] at hab
    rw [cb_pack ka kb (key_parts ga.ok).2 (key_parts gb.ok).2 (fun v hv => (ga.wf v hv).2) (fun v hv => (gb.wf v hv).2)] at hab
    exact hab
  · obtain ⟨d, hd, rfl⟩ := List.mem_map.1 (hp3.mem_iff.1 hkey)
    exact hgood d hd
set_option maxRecDepth 100000 in
set_option maxHeartbeats 2000000 in
theorem keys_st {w : World} {B : Nat → Prop} {x : Nat} {S : SAbs} {N : Nat} (h : StI w B x S N) {k : Nat} {g : List Nat} (hgS : S.gs[k]? = some g) :
    Calls Tryz.prog 15 #[.pointer (some ⟨x, 0, none⟩), .int .i64 k] w fun e w' => ∃ A c K, KeysOk S g K ∧ e = .returned (.tuple #[.slice A K.length c, .int .i64 0]) ∧ MineV w.heap.size w' A K.length c K ∧ Ext w w' := by
  obtain ⟨lab, v, D, P0, F0, h1, h2, h3, h4⟩ := h
  have hg : v.gs[k]? = some g := by rw [← h3.gs]; exact hgS
  have hk' : k < v.gs.length := (List.getElem?_eq_some_iff.1 hg).1
  have HN := hide (no_group_in h1 hk')
  have hlane := h4.lan.lane k g hg
  have hkeys := h4.row.keys hg hlane h4.row.rows
  obtain ⟨xk, hxk⟩ : ∃ xk, v.gx[k]? = some xk := ⟨_, List.getElem?_eq_getElem (by rw [h4.row.gx]; exact hk')⟩
  obtain ⟨p, hp, hix⟩ := h1.part (k + 10) xk hxk
  have HK := hide (keys_any hix)
  obtain ⟨bg, eg, hc1, hc2⟩ := h1.index hxk
  have a7 : w.cell? ⟨x, 7, none⟩ = some (.slice (some ⟨bg, 0, none⟩) v.gx.length v.gC) := by rw [← eg, ← h3.x]; exact h1.str.cell 7
  have hkx : (k : Int) < (v.gx.length : Int) := by have := (List.getElem?_eq_some_iff.1 hxk).1; omega
  have HOK := hide (fun (ps : List KP) (hp : List.Perm (ps.map KP.r) ((v.G k).map (·.1))) (hs : ps.Pairwise kpLe) => keys_ok (S := S) (g := g) hkeys (fun key => by rw [hlane.mem, h3.rows]; exact ⟨fun ⟨p, h1, h2⟩ => ⟨p.2, List.mem_map.2 ⟨p, h1, rfl⟩, h2⟩, fun ⟨r, h1, h2⟩ => by obtain ⟨p, h3, rfl⟩ := List.mem_map.1 h1; exact ⟨p, h3, h2⟩⟩) hlane.keys hlane.ents hp hs)
  have HLEN := hide (show (v.G k).length ≤ 1048576 from by have := hix.most; omega)
  rw [h3.x] at HN
  clear h1 h2 h3 h4 hlane hkeys hxk hix hp hc2 eg
  obtain ⟨i0, hi0, hz0, hz1, hz2⟩ := info_parts infoRw
  go_enter Tryz.func15, Tryz.ntmps15
  go_upto_region 3 with ((with_reducible refine HN.out.mono ?_); rintro e w2 ⟨rfl, rfl⟩)
  go_wp2_with ((with_reducible refine HK.out.mono ?_); rintro e w3 ⟨ps, A3, c3, rfl, hk3, hp3, hs3⟩; have HK3 := hide hk3; have HOK3 := hide (HOK.out ps hp3 hs3); have HPL := hide hp3.length_eq; clear hk3 hp3 hs3)
  have hn : ps.length ≤ 1048576 := by
    have h1 := HPL.out
    have h2 := HLEN.out
    rw [List.length_map, List.length_map] at h1
    omega
  clear a7 hc1
  go_loopw [6, 23] (fun s6 s23 w' => ∃ (i : Nat) (A' : Option Addr) (c' : Nat), i ≤ ps.length ∧ s6 = .slice A' i c' ∧ s23 = .int .i64 i ∧ Hid (MineV w3.heap.size w' A' i c' ((ps.take i).map fun p => (decR p.r).1)) ∧ Hid (Ext w3 w')) (fun _ s23 _ => ps.length - (intOf s23).toNat)
  case atStart => exact ⟨0, none, 0, by omega, rfl, rfl, MineV.nil _ _, Ext.refl _⟩
  case round =>
    obtain ⟨i, A', c', hin, rfl, rfl, hM, hX⟩ := hrel
    by_cases hi : i < ps.length
    · obtain ⟨p, hp⟩ : ∃ p, ps[i]? = some p := ⟨_, List.getElem?_eq_getElem hi⟩
      have hpm := List.mem_of_getElem? hp
      obtain ⟨key, hkg, hpr, hdec⟩ := HOK3.out.2 p hpm
      obtain ⟨A5, n5, c5, e5, ho5, -⟩ := (HK3.out.keys p hpm).ext hX.out
      obtain ⟨b, rfl, -, -, hcl, -⟩ := (show OwnH w3 (fun _ => True) 88 1 ps.length (.slice A3 ps.length c3) (ps.map KP.val) from ⟨mine_base HK3.out.own (Nat.zero_le _), fun _ _ => trivial⟩).at_ (by omega)
      have k0 := hX.out.cell (hcl i p.val (by rw [List.getElem?_map, hp]; rfl))
      rw [e5] at k0 ho5
      have hcap := (show OwnH wr (fun _ => True) 5 1 n5 (.slice A5 n5 c5) (bytC p.r) from ⟨ho5, fun _ _ => trivial⟩).cap
      have hBy : BytesAt wr A5 n5 p.r := Sl.own ho5
      have hn5 : n5 ≤ 1048576 := by
        have h1 := hBy.len
        have h2 := pk_le key
        rw [← hpr] at h2; omega
      have HU := hide (row_unpack p.r A5 n5 c5 wr hBy hn5 hcap.1)
      rw [hdec] at HU
      have HTK := hide (show (ps.take (i + 1)).map (fun p => (decR p.r).1) = (ps.take i).map (fun p => (decR p.r).1) ++ [key] by
        rw [List.take_add_one, hp, List.map_append]
        show _ ++ [(decR p.r).1] = _
        rw [hdec])
      have hin2 : (i : Int) < (ps.length : Int) := by omega
      clear hp hpm hkg hpr hdec e5 ho5 hcap hBy hcl
      go_upto_region 8 with ((with_reducible refine HU.out.mono ?_); rintro e w5 ⟨A6, c6, rfl, h6, x6⟩; have O6 := hide h6; have X6 := hide x6; clear h6 x6)
      obtain ⟨cells, m1, m2, m3⟩ := hM.out
      have O7 := hide (mine_ext O6.out (Ext.alloc w5 (.cells #[.slice A6 key.length c6] 30)))
      have HMM := hide (And.intro m1 (And.intro (mine_ext m2 (X6.out.trans (Ext.alloc w5 (.cells #[.slice A6 key.length c6] 30)))) (m3.mono fun cs r hx => RMine.stab _ _ _ _ _ (X6.out.trans (Ext.alloc w5 (.cells #[.slice A6 key.length c6] 30))) hx)))
      have HXA := hide ((hX.out.trans X6.out).trans (Ext.alloc w5 (.cells #[.slice A6 key.length c6] 30)))
      have HS := hide (show Sl (w5.alloc (.cells #[.slice A6 key.length c6] 30)) (some ⟨w5.heap.size, 0, none⟩) 1 1 [.slice A6 key.length c6] from (Blk.new w5 _ _).sl rfl)
      have HONE := hide (show OneCells [Value.slice A6 key.length c6] from fun v hv => by simp at hv; rw [hv]; rfl)
      have hsz := hX.out.size
      clear k0 m1 m2 m3
      go_wp2_with (at_builtin; refine wpList_append_sl rfl (.tmp 32) (.tmp 34) _ rfl 30 i0 _ 1 24 Tryz.underlying22 hi0 hz0 hz1 hz2 rfl (by omega) w3 HXA.out (.slice A' i c') i cells rfl HMM.out.2.1 _ 1 1 _ rfl HS.out HONE.out (by unfold maxLen; omega) (by omega) ?_; intro A8 c8 w8 own8 E8 G8 L8)
      have HNM := hide (show MineV w3.heap.size w8 A8 (i + 1) c8 ((ps.take (i + 1)).map fun p => (decR p.r).1) from by
        rw [HTK.out]
        exact MineV.push HMM.out.1 HMM.out.2.1 HMM.out.2.2 (mine_base O7.out hsz) G8.out own8.out)
      have HX8 := hide E8.out
      clear own8 E8 G8 L8
      go_wp2_with fail
      go_roundw
      case rel => exact ⟨i + 1, A8, c8, by omega, rfl, by go_num, HNM, HX8⟩
      case measure => simp [intOf]; omega
    · obtain rfl : i = ps.length := by omega
      rw [List.take_of_length_le (Nat.le_refl _)] at hM
      have HM := hide hM.out
      clear hM
      go_wp2_with fail
      go_ret2
      refine ⟨A', c', ps.map fun p => (decR p.r).1, HOK3.out.1, by rw [List.length_map]; rfl, ?_, HK3.out.ext.trans hX.out⟩
      rw [List.length_map]
      exact HM.out.base HK3.out.ext.size
end Go.Proofs.YtifloafhpeeepaaGreat

namespace Go.Proofs.YtifloafhpeeepaaGreat
open Go.RowKit

/-- where it stands first, or -1 -/
def plcR (r : List V) : List (List V) → Nat → Int
  | [], _ => -1
  | s :: l, i => if sameR s r then i else plcR r l (i + 1)
end Go.Proofs.YtifloafhpeeepaaGreat

namespace Go.Proofs.YtifloafhpeeepaaGreat
open Go.RowKit

end Go.Proofs.YtifloafhpeeepaaGreat
