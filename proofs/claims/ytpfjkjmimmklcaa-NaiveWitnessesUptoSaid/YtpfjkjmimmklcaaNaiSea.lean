/-
  The document's Witness: the search: the walk.
-/
import Derived.Test.YtpfjkjmimmklcaaNaiSeaP
import Derived.Test.YtpfjkjmimmklcaaNaiAll
import Derived.ArgAppend
namespace Go.Proofs.Ytpfjkjmimmklcaa
open Go.RowKit

/-- a table of one row; a list of one row; rows that were there, in a list of the call's own -/
def OnIs (rel : ByteArray) (A : Option Addr) (c : Nat) (u : Value) (w : World) : Prop := ∃ g, u = .slice (some ⟨g, 0, none⟩) 1 1 ∧ Blk w g 43 #[.string rel, .slice A 1 c]
theorem OnIs.ext {rel : ByteArray} {A : Option Addr} {c : Nat} {u : Value} {w w' : World} (h : OnIs rel A c u w) (hw : Ext w w') : OnIs rel A c u w' := by
  obtain ⟨g, h1, h2⟩ := h
  exact ⟨g, h1, h2.ext hw⟩
def SrIs (A : Option Addr) (n c : Nat) (u : Value) (w : World) : Prop := ∃ g, u = .slice (some ⟨g, 0, none⟩) 1 1 ∧ Blk w g 35 #[.slice A n c]
theorem SrIs.ext {A : Option Addr} {n c : Nat} {u : Value} {w w' : World} (h : SrIs A n c u w) (hw : Ext w w') : SrIs A n c u w' := by
  obtain ⟨g, h1, h2⟩ := h
  exact ⟨g, h1, h2.ext hw⟩
def RoIs (base : Nat) (rs : List (List V)) (u : Value) (w : World) : Prop := ∃ A c cells, u = .slice A rs.length c ∧ w.ownsRow base 35 1 (.slice A rs.length c) rs.length cells ∧ Els RRow 1 w cells rs
theorem RoIs.ext {base : Nat} {rs : List (List V)} {u : Value} {w w' : World} (h : RoIs base rs u w) (hw : Ext w w') : RoIs base rs u w' := by
  obtain ⟨A, c, cells, h1, h2, h3⟩ := h
  exact ⟨A, c, cells, h1, mine_ext h2 hw, h3.ext RRow.stab hw⟩
/-- a copy without room behind it -/
def CfIs (rs : List (List V)) (u : Value) (w : World) : Prop := ∃ g cells, u = .slice (some ⟨g, 0, none⟩) rs.length rs.length ∧ Blk w g 35 (cells : List Value).toArray ∧ cells.length = rs.length ∧ Els RRow 1 w cells rs
theorem CfIs.ext {rs : List (List V)} {u : Value} {w w' : World} (h : CfIs rs u w) (hw : Ext w w') : CfIs rs u w' := by
  obtain ⟨g, cells, h1, h2, h3, h4⟩ := h
  exact ⟨g, cells, h1, h2.ext hw, h3, h4.ext RRow.stab hw⟩
set_option maxRecDepth 100000 in
theorem copy_full (rows : List (List V)) (A : Option Addr) (n c : Nat) (w : World) (ha : LAt RRow 1 w A n rows) (hn : n ≤ 16777216) (hr : ∀ r ∈ rows, r.length ≤ 16777216) :
    Calls Try.prog 23 #[.slice A n c] w fun e w' => ∃ u, e = .returned u ∧ CfIs rows u w' ∧ Ext w w' := by
  obtain rfl : n = rows.length := ha.len
  obtain ⟨i0, hi0, hz0, hz1, hz2⟩ := info_parts infoRw
  have hmk := run_make_n (P := Try.prog) 27 35 i0 _ Try.underlying27 hi0 hz0 (by omega) .i64 .i64 rows.length hn
  simp only [hz1] at hmk
  have Ha := hide ha; have Hr := hide hr
  clear ha hr hz1 hz2 hz0 hi0
  have HE := hide (Ext.alloc w (.cells (madeCells #[Value.slice none 0 0] rows.length) 35))
  have HI0 := hide (show CpR w (w.alloc (.cells (madeCells #[Value.slice none 0 0] rows.length) 35)) w.heap.size rows rows.length 0 from by
    refine ⟨⟨[], rfl, ?_, by simpa using Els.nil⟩, Ext.alloc _ _⟩
    have h := Blk.new w 35 (madeCells #[Value.slice none 0 0] rows.length)
    have e : (([] : List Value) ++ List.replicate (rows.length - 0) (Value.slice none 0 0)).toArray = madeCells #[Value.slice none 0 0] rows.length := by
      apply Array.toList_inj.1
      simpa using (toList_madeCells_one (Value.slice none 0 0) rows.length).symm
    rw [e]
    exact h)
  go_enter Try.func23, Try.ntmps23
  go_wp2_with fail
  generalize hW : w.alloc (.cells (madeCells #[Value.slice none 0 0] rows.length) 35) = W1 at *
  clear hW
  go_loopw [4] (fun s4 w' => ∃ i : Nat, i ≤ rows.length ∧ s4 = .int .i64 i ∧ Hid (CpR w w' w.heap.size rows rows.length i)) (fun s4 _ => rows.length - (intOf s4).toNat)
  case atStart => exact ⟨0, by omega, rfl, HI0.out⟩
  case round =>
    obtain ⟨i, hin, rfl, hI⟩ := hrel
    by_cases h : i < rows.length
    · obtain ⟨b, off, r, A9, n9, c9, rfl, hx, hb1, d0, hR⟩ := (Ha.out.ext RRow.stab hI.out.ext).row_ h
      have HCP := hide (copy_any r A9 n9 c9 wr hR (by have := Hr.out r (List.mem_of_getElem? hx); have := hR.len; omega))
      have Hx := hide hx
      have HH := hide h
      clear hx hb1 hR
      go_wp2_with ((with_reducible refine HCP.out.mono ?_); rintro e w5 ⟨A5, c5, rfl, o5, x5⟩; have HO5 := hide (mine_base o5 hI.out.ext.size); have HI5 := hide (hI.out.go x5); clear o5 x5 d0; have c0 := (HI5.out.at_ HH.out).1; have f0 := (HI5.out.at_ HH.out).2)
      go_roundw
      case rel => exact ⟨i + 1, by omega, by go_num, HI5.out.put HH.out Hx.out (Nat.le_refl _) HO5.out⟩
      case measure => simp [intOf]; omega
    · obtain rfl : i = rows.length := by omega
      have hfin := hide (show ∃ u, Ending.returned (.slice (some ⟨w.heap.size, 0, none⟩) rows.length rows.length) = .returned u ∧ CfIs rows u wr ∧ Ext w wr from by
        obtain ⟨cs, h1, h2, h3⟩ := hI.out.blk
        rw [Nat.sub_self] at h2
        simp only [List.replicate_zero, List.append_nil] at h2
        rw [List.take_of_length_le (Nat.le_refl _)] at h3
        exact ⟨_, rfl, ⟨w.heap.size, cs, rfl, h2, h1, h3.mono fun _ _ h => h.row⟩, hI.out.ext⟩)
      go_wp2_with fail
      go_ret
      exact hfin.out
theorem eUpon_append {P : Program} {w w' : World} {a : Act} {ops : Array Oper} {o : Oper} {s x : Operand} {t : TypeId} {u1 u2 v' : Value} {G : Value → World → Prop} (hw : Region.wanted o (yielded ops a.tmps) = true) (ho : o.op = .call { callee := .builtin .append, args := #[s, x], argTypes := #[t, t] })
    (hs : a.eval s = u1) (hx : a.eval x = u2) (hrun : (Builtin.append_ #[t, t] o.type #[u1, u2]).run P w = .ok v' w') (hG : Ext w w' ∧ G v' w') : if Region.wanted o (yielded ops a.tmps) = true then eUpon P w (.p G) ((execOp a.eval o).run P w) else G undef w := by
  rw [if_pos hw]
  unfold execOp
  simp only [ho, resolve, invoke, builtin, Sem.run_bind, Sem.run_pure, Result.andThen_ok, List.map_toArray, List.map_cons, List.map_nil, hs, hx, hrun]
  exact hG
theorem own_cap {w : World} {base n c : Nat} {e : TypeId} {s : Nat} {A : Option Addr} {xs : List Value} (h : w.ownsRow base e s (.slice A n c) n xs) (hn : 0 < n) : n ≤ c := by
  obtain ⟨h1, h2⟩ := h
  rcases h2 with ⟨h3, h4⟩ | ⟨g, cap, cur, he, hb, hh, hn2, hc, hs, ht⟩
  · omega
  · injection he with e1 e2 e3
    omega
theorem lat_part {w : World} {gp N vc : Nat} {VA : Option Addr} {vals : List V} (hb : Blk w gp 102 #[.slice VA N vc, .slice none 0 0]) (hv : RowAt w VA N vals) : LAt (RPart 0) 2 w (some ⟨gp, 0, none⟩) 1 [vals] := by
  refine ⟨rfl, [.slice VA N vc, .slice none 0 0], Els.single rfl ?_ ⟨_, N, _, none, 0, 0, [], rfl, hv, NumAt.own (base := 0) (e := 3) (c := 0) (World.ownsRow_nil _ _ _ _), Nat.le_refl _⟩, hb.sl (n := 1) (size := 2) rfl⟩
  intro v hv
  simp only [List.mem_cons, List.not_mem_nil, or_false] at hv
  rcases hv with rfl | rfl <;> rfl
theorem lat_one_tab {w : World} {gt c : Nat} {A : Option Addr} {rel : ByteArray} {r : List V} (hb : Blk w gt 43 #[.string rel, .slice A 1 c]) (hr : LAt RRow 1 w A 1 [r]) : LAt RB 2 w (some ⟨gt, 0, none⟩) 1 [⟨rel, [r]⟩] := by
  refine ⟨rfl, [.string rel, .slice A 1 c], Els.single rfl ?_ ⟨A, 1, c, rfl, hr⟩, hb.sl (n := 1) (size := 2) rfl⟩
  intro v hv
  simp only [List.mem_cons, List.not_mem_nil, or_false] at hv
  rcases hv with rfl | rfl <;> rfl
/-- one row at an atom -/
theorem step_one {q : Qy} {L : QLoc} {data : List Tbl} {i : Nat} {a : Atm} {val r : List V} {G P : Option Addr} {c cp : Nat} {w : World} (hq : QAt w L q) (hM : smallM 1048576 q) (hsh : Shaped q) (hi : q.atoms[i]? = some a) (hl : val.length = seenI q i)
    (hT : LAt RB 2 w G 1 [⟨a.rel, [r]⟩]) (hr : r.length ≤ 1048576) (hP : LAt (RPart 0) 2 w P 1 [fullV (varsQ q).length val]) :
    Calls Try.prog 86 #[qval q.name L, .slice G 1 c, .slice P 1 cp, .int .i64 i, .int .i64 2] w fun e w' => ∃ A c, e = .returned (.tuple #[.slice A (((lvI q data a).one val r).map (fullV (varsQ q).length)).toList.length c, .int .i64 1]) ∧
      LAt (RPart 1) 2 w' A (((lvI q data a).one val r).map (fullV (varsQ q).length)).toList.length (((lvI q data a).one val r).map (fullV (varsQ q).length)).toList ∧ Ext w w' := by
  have h := ref_step q L [⟨a.rel, [r]⟩] G 1 c [fullV (varsQ q).length val] P 1 cp i 0 a 2 w hq hM hsh hT (by omega) (by simp) (by simpa using hr) hP
    (fun p hp => by obtain rfl := List.mem_singleton.1 hp; exact fullV_len (by rw [hl]; exact seenI_le q i)) (by omega) hi (by omega) (by omega)
  refine h.mono fun e w' h => ?_
  have h2 := step_ok (tn := 1) (room := 2) (by rw [rowsOfP_one]; rfl) (by omega) h
  rw [(step_one_eq r hi hl).1] at h2
  exact h2

set_option maxHeartbeats 8000000 in
set_option maxRecDepth 100000 in
theorem sea_any (q : Qy) (data : List Tbl) (ans : List V) (A : Option Addr) (n cA : Nat) (AB : Option Addr) (k d : Nat) (DB : Option Addr) (m dc : Nat) (NB : Option Addr) (nn nc : Nat) (W : World) (gs : Nat) (st : Leaf → Bool)
    (hq : QAt W ⟨A, n, cA, AB, k, d⟩ q) (hM : smallM 1048576 q) (hsh : Shaped q) (hb : LAt RB 2 W DB m data) (hm : m ≤ 1048576) (hsum : (data.flatMap Tbl.rows).length ≤ 1099511627776) (hrow : ∀ t ∈ data, ∀ r ∈ t.rows, r.length ≤ 1048576)
    (ha : RowAt W NB nn ans) (hgs : W.heap.size ≤ gs) (hst : ∀ x, st x = sameR (headV (q.head.map (atN (varsQ q))) x.1) ans) :
    ∀ (ls : List Lv) (i : Nat) (val : List V) (trl : List (List V)) (c : Nat) (w : World) (VA : Option Addr) (vc : Nat) (TA : Option Addr) (tc : Nat) (cells : List Value) (R : Option Addr) (u z : Nat),
      (lvsFrom (varsQ q) data q.atoms).drop i = ls → i ≤ q.atoms.length → val.length = seenI q i → trl.length = i → c ≤ 131072 → Ext W w → (∀ r ∈ trl, r.length ≤ 1048576) →
      Blk w gs 113 (seaX q.name A n cA AB k d DB m dc NB nn nc (c : Int) R u z) → RowAt w VA (varsQ q).length (fullV (varsQ q).length val) → w.ownsRow (gs + 1) 35 1 (.slice TA i tc) i cells → Els RRow 1 w cells trl →
      Calls Try.prog 59 #[.pointer (some ⟨gs, 0, none⟩), .int .i64 i, .slice VA (varsQ q).length vc, .slice TA i tc] w
        (RetAt gs (seaX q.name A n cA AB k d DB m dc NB nn nc) (131073 + (q.atoms.length - i)) c (visit st ls val trl) w) := by
  obtain rfl : k = q.atoms.length := hq.atoms.len
  intro ls
  induction ls with
  | nil =>
    intro i val trl c w VA vc TA tc cells R u z hd hi hl ht hc hE hrl hB hV ho he
    obtain rfl : i = q.atoms.length := by
      have := List.drop_eq_nil_iff.1 hd
      simp only [lvsFrom, List.length_map] at this
      omega
    rw [fullV_self (hl.trans (seenI_all q))] at hV
    have h6 := hsh.six
    have hvl : (headV (q.head.map (atN (varsQ q))) val).length = q.head.length := by simp [headV]
    have HHD := hide (fun w1 (h1 : Ext w w1) => show Calls Try.prog 35 #[.agg #[.string q.name, .slice A n cA, .slice AB q.atoms.length d], .slice VA (varsQ q).length vc] w1 (RetOwn w1 58 3 (headV (q.head.map (atN (varsQ q))) val).length (cellsR (headV (q.head.map (atN (varsQ q))) val))) from by
      rw [hvl]; exact ref_head q ⟨A, n, cA, AB, q.atoms.length, d⟩ val VA _ vc w1 (hq.ext (hE.trans h1)) hM hsh (hV.ext h1) rfl)
    have HSM := hide (fun (A5 : Option Addr) (c5 : Nat) w1 (h1 : Ext w w1) (h5 : RowAt w1 A5 (headV (q.head.map (atN (varsQ q))) val).length (headV (q.head.map (atN (varsQ q))) val)) => same_any _ ans A5 NB _ nn c5 nc w1 h5 (ha.ext (hE.trans h1)) (by have := hM.headL; omega))
    have HCA := hide (fun w1 (h1 : Ext w w1) => copy_all trl TA q.atoms.length tc w1 ((LAt.own ht.symm he ho).ext RRow.stab h1) (by omega) (fun r hr => by have := hrl r hr; omega))
    have HSZ := hide (show gs < w.heap.size from hB.lt)
    have HST := hide (hst (val, trl))
    simp only at HST
    have HB := hide hB
    generalize headV (q.head.map (atN (varsQ q))) val = hv at *
    generalize hsb : sameR hv ans = sb at *
    have HSB := hide (HST.out)
    clear hq hM hsh hb hsum hrow ha hst hV ho he hrl hvl hsb hB HST hd hl
    have z0 := cell_ext (show w.cell? ⟨gs, 0, none⟩ = some (.string q.name) from HB.out.cell 0)
    have z1 := cell_ext (show w.cell? ⟨gs, 1, none⟩ = some (.slice A n cA) from HB.out.cell 1)
    have z2 := cell_ext (show w.cell? ⟨gs, 2, none⟩ = some (.slice AB q.atoms.length d) from HB.out.cell 2)
    have z4 := cell_ext (show w.cell? ⟨gs, 4, none⟩ = some (.slice NB nn nc) from HB.out.cell 4)
    have y2 : w.cell? ⟨gs, 2, none⟩ = some (.slice AB q.atoms.length d) := HB.out.cell 2
    go_enter Try.func59, Try.ntmps59
    go_upto_region 2 with fail
    refine wp_region_ext 11 (by kernel_rfl) (by kernel_rfl) (by kernel_rfl) ?_
    iterate 5
      refine wpE_k (by kernel_rfl) (by kernel_rfl) ?_
      apply Exists.intro
      refine ⟨fun w1 hw1 => ?_, fun K hK => ?_⟩
      · go_simp; first | done | rfl
      go_simp; refine hK _ _ ?_; clear hK K
    refine wpE_p [] (HvIs gs hv) (fun u w1 w2 _ h2 h => HvIs.ext h h2) rfl (by kernel_rfl) (fun w1 hw1 => ?_) ?_
    · simp only [LookQ]
      clear z0 z1 z2 z4 y2
      go_simp
      refine ⟨Ext.refl _, (HHD.out w1 hw1).mono ?_⟩
      rintro e w9 ⟨A5, c5, rfl, o5, x5⟩
      exact ⟨_, rfl, x5, A5, c5, rfl, mine_base o5 (Nat.le_of_lt (Nat.lt_of_lt_of_le HSZ.out hw1.size))⟩
    iterate 4
      refine wpE_k (by kernel_rfl) (by kernel_rfl) ?_
      apply Exists.intro
      refine ⟨fun w1 hw1 => ?_, fun K hK => ?_⟩
      · go_simp; first | done | rfl
      go_simp; refine hK _ _ ?_; clear hK K
    refine wpE_kp [27] (.bool sb) (by kernel_rfl) (by kernel_rfl) (fun w1 hw1 => ?_) (fun K hK => ?_)
    · simp only [LookQ]
      rintro _ hu
      obtain ⟨A5, c5, rfl, h5⟩ := hu _ rfl
      clear hu z0 z1 z2 z4 y2
      go_simp
      exact ⟨Ext.refl _, HSM.out A5 c5 w1 hw1 (RowAt.own h5)⟩
    go_simp; refine hK _ _ ?_; clear hK K
    refine wpE_nil ⟨rfl, by kernel_rfl, fun w1 hw1 => ?_⟩
    simp only [EndQ, List.drop]
    rintro _ _
    refine wpList_nil ?_
    have HB1 := hide (HB.out.ext hw1); have X1 := hide hw1
    clear z0 z1 z2 z4 y2 hw1
    have hc0 := hide hc
    cases sb with
    | false =>
      go_wp2_with fail
      go_ret
      exact ⟨Fr.of_ext X1.out, .inl ⟨by simp [visit]; exact hc0.out, by simp [visit, HSB.out], R, u, z, by simpa [visit] using HB1.out, fun e => by simp [visit, HSB.out] at e⟩⟩
    | true =>
      have z6 : w1.cell? ⟨gs, 6, none⟩ = some (.slice R u z) := HB1.out.cell 6
      go_wp2_with ((with_reducible refine (HCA.out _ X1.out).mono ?_); rintro e w3 ⟨A6, n6, c6, cells6, rfl, hn6, o6, e6, x6⟩; have X3 := hide (X1.out.trans x6); have HB3 := hide (HB1.out.ext x6); have HO6 := hide o6; have HE6 := hide e6; have HN6 := hide hn6; clear x6 o6 e6 hn6 z6; have z6 : w3.cell? ⟨gs, 6, none⟩ = some (.slice R u z) := HB3.out.cell 6; have f6 := HB3.out.frozen 6)
      go_ret
      refine ⟨(Fr.of_ext (S := fun g => g = gs) X3.out).setCell (p := ⟨gs, 6, none⟩) (.inl rfl) _, .inl ⟨by simp [visit]; exact hc0.out, by simp [visit, HSB.out], A6, n6, c6, ?_, fun _ => ⟨(val, trl), rfl, ?_⟩⟩⟩
      · have h9 := HB3.out.set_ 6 (.slice A6 n6 c6)
        simpa [visit, seaX] using h9
      · exact mine_lat HN6.out (mine_set HO6.out HB3.out (by decide) 6 _) (HE6.out.mono fun _ _ h => h.set_ HB3.out (by decide) 6 _)
  | cons l ls ih =>
    intro i val trl c w VA vc TA tc cells R u z hd hi hl ht hc hE hrl hB hV ho he
    subst ht
    have hil : trl.length < q.atoms.length := by
      rcases Nat.lt_or_ge trl.length q.atoms.length with h | h
      · exact h
      · rw [List.drop_of_length_le (by simpa [lvsFrom] using h)] at hd; cases hd
    obtain ⟨ab, aoff, a, cs, hAB, hat, hab, hcl, hone, ⟨T8, n8, c8, rfl, hTm⟩, hcell⟩ := hq.atoms.get (by decide) hil
    simp only at hAB
    subst hAB
    have hlv := lvs_at (data := data) hat
    have hil' : trl.length < (lvsFrom (varsQ q) data q.atoms).length := by simpa [lvsFrom] using hil
    have hd' := hd
    rw [List.drop_eq_getElem_cons hil'] at hd'
    injection hd' with hd1 hd2
    rw [List.getElem?_eq_getElem hil', hd1] at hlv
    obtain rfl : l = lvI q data a := Option.some.inj hlv
    have hrs : ∀ r ∈ rowsOfP data a.rel, r.length ≤ 1048576 := fun r hr => by
      obtain ⟨t, ht, -, hr⟩ := rowsOfP_mem hr
      exact hrow t ht r hr
    have HIH := hide (fun (v r : List V) (cj : Nat) (w1 : World) (VA1 : Option Addr) (vc1 : Nat) (TA1 : Option Addr) (tc1 : Nat) (cells1 : List Value) (R1 : Option Addr) (u1 z1 : Nat) (h1 : v.length = seenI q (trl.length + 1)) (h2 : cj ≤ 131072) (h3 : Ext W w1) (h4 : r.length ≤ 1048576)
        (h5 : Blk w1 gs 113 (seaX q.name A n cA (some ⟨ab, aoff, none⟩) q.atoms.length d DB m dc NB nn nc (cj : Int) R1 u1 z1)) (h6 : RowAt w1 VA1 (varsQ q).length (fullV (varsQ q).length v)) (h7 : w1.ownsRow (gs + 1) 35 1 (.slice TA1 (trl.length + 1) tc1) (trl.length + 1) cells1) (h8 : Els RRow 1 w1 cells1 (trl ++ [r])) =>
      (ih (trl.length + 1) v (trl ++ [r]) cj w1 VA1 vc1 TA1 tc1 cells1 R1 u1 z1 hd2 (by omega) h1 (by simp) h2 h3 (fun x hx => by rcases List.mem_append.1 hx with hx | hx; exact hrl x hx; obtain rfl := List.mem_singleton.1 hx; exact h4) h5 h6 h7 h8).mono fun _ _ h => h.cases)
    have HSTP := hide (fun (r : List V) (G : Option Addr) (c5 : Nat) (P : Option Addr) (cp : Nat) (w1 : World) (h1 : Ext W w1) (hT : LAt RB 2 w1 G 1 [⟨a.rel, [r]⟩]) (hr : r.length ≤ 1048576) (hP : LAt (RPart 0) 2 w1 P 1 [fullV (varsQ q).length val]) => step_one (data := data) (c := c5) (cp := cp) (hq.ext h1) hM hsh hat hl hT hr hP)
    have HONE := hide (fun (r v : List V) (h : (lvI q data a).one val r = some v) => (step_one_eq (data := data) r hat hl).2 v h)
    have HLN := hide (fun (r v : List V) (h : (lvI q data a).one val r = some v) => show (fullV (varsQ q).length v).length = (varsQ q).length from fullV_len (by rw [(step_one_eq (data := data) r hat hl).2 v h]; exact seenI_le q _))
    have HRO := hide (fun w1 (h1 : Ext w w1) => ref_rowsOf data a.rel DB m dc w1 (hb.ext RB.stab (hE.trans h1)) hm hsum)
    have HCA := hide (fun w1 (h1 : LAt RRow 1 w1 TA trl.length trl) => copy_full trl TA trl.length tc w1 h1 (by have := hsh.six; omega) (fun r hr => by have := hrl r hr; omega))
    have HRS := hide hrs
    have HRL := hide (show (rowsOfP data a.rel).length ≤ 1099511627776 from Nat.le_trans (rowsOfP_le _ _) hsum)
    have HAC := hide (show W.cell? ⟨ab, aoff + trl.length * 2, none⟩ = some (.string a.rel) from by have := hcell 0 (by decide); rw [Nat.add_zero] at this; exact this)
    have HIL := hide hil
    have H6 := hide hsh.six
    have HB := hide hB; have HV := hide hV; have HO := hide ho; have HEL := hide he; have HWE := hide hE; have HGS := hide hgs
    show Calls _ _ _ _ (RetAt gs _ _ c (goRows (lvI q data a) (visit st ls) val trl (rowsOfP data a.rel)) w)
    simp only [qval] at HSTP
    clear hq hM hsh hb hm hsum hrow ha hst hl hrl hB hV ho he hd2 hd1 hlv hil' hrs hat hab hcl hone hTm hcell ih
    generalize lvI q data a = lv at *
    generalize visit st ls = f at *
    generalize rowsOfP data a.rel = rows at *
    generalize (varsQ q).length = N at *
    have h6 := H6.out
    have z0 := cell_ext (show w.cell? ⟨gs, 0, none⟩ = some (.string q.name) from HB.out.cell 0)
    have z2 := cell_ext (show w.cell? ⟨gs, 2, none⟩ = some (.slice (some ⟨ab, aoff, none⟩) q.atoms.length d) from HB.out.cell 2)
    have z3 := cell_ext (show w.cell? ⟨gs, 3, none⟩ = some (.slice DB m dc) from HB.out.cell 3)
    have c0 := cell_ext (show w.cell? ⟨ab, aoff + trl.length * 2, none⟩ = some (.string a.rel) from hE.cell HAC.out)
    have y2 : w.cell? ⟨gs, 2, none⟩ = some (.slice (some ⟨ab, aoff, none⟩) q.atoms.length d) := HB.out.cell 2
    have hne : ¬ (trl.length : Int) = (q.atoms.length : Int) := by omega
    have hltI : (trl.length : Int) < (q.atoms.length : Int) := by omega
    go_enter Try.func59, Try.ntmps59
    go_upto_region 6 with fail
    refine wp_region_ext 15 (by kernel_rfl) (by kernel_rfl) (by kernel_rfl) ?_
    iterate 13
      refine wpE_k (by kernel_rfl) (by kernel_rfl) ?_
      apply Exists.intro
      refine ⟨fun w1 hw1 => ?_, fun K hK => ?_⟩
      · go_simp; first | done | rfl
      go_simp; refine hK _ _ ?_; clear hK K
    refine wpE_p [] (RoIs (gs + 1) rows) (fun u w1 w2 _ h2 h => RoIs.ext h h2) rfl (by kernel_rfl) (fun w1 hw1 => ?_) ?_
    · simp only [LookQ]
      clear z0 z2 z3 c0 y2
      go_simp
      refine ⟨Ext.refl _, (HRO.out w1 hw1).mono ?_⟩
      rintro e w9 ⟨A5, c5, cells5, rfl, o5, e5, x5⟩
      exact ⟨_, rfl, x5, A5, c5, cells5, rfl, mine_base o5 (Nat.lt_of_lt_of_le HB.out.lt hw1.size), e5⟩
    refine wpE_p [51] (RoIs (gs + 1) rows) (fun u w1 w2 _ h2 h => RoIs.ext h h2) rfl (by kernel_rfl) (fun w1 hw1 => ?_) ?_
    · simp only [LookQ]
      intro u hu
      have h9 := hu _ rfl
      clear hu z0 z2 z3 c0 y2
      go_simp
      exact ⟨Ext.refl _, h9⟩
    refine wpE_nil ⟨rfl, by kernel_rfl, fun w1 hw1 => ?_⟩
    simp only [EndQ, List.drop]
    rintro _ ⟨A9, c9, cells9, rfl, o9, e9⟩ _ _
    refine wpList_nil ?_
    have X1 := hide hw1; have HO9 := hide o9; have HE9 := hide e9
    have HB1 := hide (HB.out.ext hw1)
    clear z0 z2 z3 c0 y2 hw1 o9 e9
    have HT0 := hide (show LAt RRow 1 w1 TA trl.length trl from (LAt.own rfl HEL.out HO.out).ext RRow.stab X1.out)
    have HV1 := hide (HV.out.ext X1.out)
    have HO1 := hide (mine_ext HO.out X1.out)
    have HEL1 := hide (HEL.out.ext RRow.stab X1.out)
    have HW1 := hide (HWE.out.trans X1.out)
    have hB1 := HB1
    clear HT0 HV HO HEL HWE HRO HB
    go_wp2_with fail
    go_loopw [8, 10, 11, 12, 13] (fun _ s10 _ _ _ w' => ∃ (j t : Nat) (R u z : _), j ≤ rows.length ∧ s10 = .int .i64 j ∧ Hid (Fr (fun g => g = gs) w1 w') ∧ Hid (Blk w' gs 113 (seaX q.name A n cA (some ⟨ab, aoff, none⟩) q.atoms.length d DB m dc NB nn nc (t : Int) R u z)) ∧
      (Hid (t ≤ 131072 ∧ ∃ prej, GoI lv f val trl rows c [] j t prej) ∨ Hid (131072 < t ∧ t ≤ 131073 + (q.atoms.length - (trl.length + 1)) ∧ 131072 < c + (goRows lv f val trl rows).1))) (fun _ s10 _ _ _ _ => rows.length - (intOf s10).toNat)
    case atStart => exact ⟨0, c, R, u, z, by omega, rfl, Fr.refl _ _, HB1.out, .inl ⟨hc, [], GoI.start⟩⟩
    case round =>
      obtain ⟨j, t, R, u, z, hjn, rfl, hF, hB, hcs⟩ := hrel
      clear HB1
      have hrl := HRL.out
      by_cases h : j < rows.length
      · obtain ⟨hO9, hE9⟩ := rows_past HO9.out HE9.out hB1.out seaX_noRow hF.out
        have hWr : Ext W wr := ((Fr.of_ext (S := fun g => g = gs) HW1.out).trans hF.out).out fun g hg => by have hg : g = gs := hg; have := HGS.out; omega
        have z5 : wr.cell? ⟨gs, 5, none⟩ = some (.int .i64 (t : Int)) := hB.out.cell 5
        have f5 := hB.out.frozen 5
        have hjI : (j : Int) < (rows.length : Int) := by omega
        have hX0 := X1.out
        rcases hcs with hcs | hcs
        · obtain ⟨ht, prej, hG⟩ := hcs.out
          have HG := hide hG
          clear hcs hG
          have HMO := hide (HG.out.more (List.getElem?_eq_getElem h))
          by_cases ht1 : t + 1 ≤ 131072
          · have hle : ¬ (131072 : Int) < (t : Int) + 1 := by omega
            go_upto_region 13 with fail
            have hB9 : Blk (wr.setCell ⟨gs, 5, none⟩ (.int .i64 ((t : Int) + 1))) gs 113 (seaX q.name A n cA (some ⟨ab, aoff, none⟩) q.atoms.length d DB m dc NB nn nc ((t + 1 : Nat) : Int) R u z) := by
              have h9 := hB.out.set_ 5 (.int .i64 ((t : Int) + 1))
              simpa [seaX] using h9
            have hF9 := hF.out.setCell (p := ⟨gs, 5, none⟩) (.inl rfl) (.int .i64 ((t : Int) + 1))
            have hW9 := hWr.setCell (p := ⟨gs, 5, none⟩) HGS.out (.int .i64 ((t : Int) + 1))
            clear hB hF hWr z5 f5 hO9 hE9
            generalize wr.setCell ⟨gs, 5, none⟩ (.int .i64 ((t : Int) + 1)) = w9 at *
            obtain ⟨hO9, hE9⟩ := rows_past HO9.out HE9.out hB1.out seaX_noRow hF9
            have hL9 : LAt RRow 1 w9 A9 rows.length rows := LAt.own rfl hE9 hO9
            obtain ⟨b3, off3, r, A10, n10, c10, hA9, hr, hb3, e0, hR10⟩ := hL9.row_ h
            subst hA9
            have hcap : j + 1 ≤ c9 := Nat.le_trans h (own_cap hO9 (by omega))
            have HLR := hide (lat_one_row hL9 hr)
            have HE0 := hide e0
            have HRX := hide hr
            have HRN := hide (HRS.out r (List.mem_of_getElem? hr))
            have HR10 := hide hR10
            have HF9 := hide hF9
            have HB9 := hide hB9
            have HW9 := hide hW9
            have z0 := cell_ext (show w9.cell? ⟨gs, 0, none⟩ = some (.string q.name) from HB9.out.cell 0)
            have z2 := cell_ext (show w9.cell? ⟨gs, 2, none⟩ = some (.slice (some ⟨ab, aoff, none⟩) q.atoms.length d) from HB9.out.cell 2)
            have c0 := cell_ext (show w9.cell? ⟨ab, aoff + trl.length * 2, none⟩ = some (.string a.rel) from HW9.out.cell HAC.out)
            clear hO9 hE9 hL9 hb3 hr e0 hR10 hF9 hB9 hW9
            refine wp_region_ext 17 (by kernel_rfl) (by kernel_rfl) (by kernel_rfl) ?_
            iterate 12
              refine wpE_k (by kernel_rfl) (by kernel_rfl) ?_
              apply Exists.intro
              refine ⟨fun w1 hw1 => ?_, fun K hK => ?_⟩
              · go_simp; first | done | rfl
              go_simp; refine hK _ _ ?_; clear hK K
            refine wpE_k (by kernel_rfl) (by kernel_rfl) ?_
            refine ⟨.int .i64 ((j + 1 : Nat) : Int), fun w2 hw2 => ?_, fun K hK => ?_⟩
            · clear z0 z2 c0
              go_simp
              exact IntWalk.i64_in _ (by omega)
            go_simp; refine hK _ _ ?_; clear hK K
            refine wpE_k (by kernel_rfl) (by kernel_rfl) ?_
            refine ⟨.slice (some ⟨b3, off3 + j, none⟩) 1 (c9 - j), fun w2 hw2 => ?_, fun K hK => ?_⟩
            · clear z0 z2 c0
              go_simp
              rw [if_pos (by omega), if_neg (by omega)]
              exact ⟨rfl, rfl⟩
            go_simp; refine hK _ _ ?_; clear hK K
            iterate 1
              refine wpE_k (by kernel_rfl) (by kernel_rfl) ?_
              apply Exists.intro
              refine ⟨fun w1 hw1 => ?_, fun K hK => ?_⟩
              · go_simp; first | done | rfl
              go_simp; refine hK _ _ ?_; clear hK K
            refine wpE_p [] (OnIs a.rel (some ⟨b3, off3 + j, none⟩) (c9 - j)) (fun u w1 w2 _ h2 h => OnIs.ext h h2) rfl (by kernel_rfl) (fun w2 hw2 => ?_) ?_
            · simp only [LookQ]
              clear z0 z2 c0
              go_simp
              exact ⟨Ext.alloc _ _, _, rfl, Blk.new _ _ _⟩
            refine wpE_p [85] (OnIs a.rel (some ⟨b3, off3 + j, none⟩) (c9 - j)) (fun u w1 w2 _ h2 h => OnIs.ext h h2) rfl (by kernel_rfl) (fun w2 hw2 => ?_) ?_
            · simp only [LookQ]
              intro u hu
              have h9 := hu _ rfl
              clear hu z0 z2 c0
              go_simp
              exact ⟨Ext.refl _, h9⟩
            refine wpE_nil ⟨rfl, by kernel_rfl, fun w10 hw10 => ?_⟩
            simp only [EndQ, List.drop]
            rintro _ ⟨g11, rfl, h11⟩ _ _
            refine wpList_nil ?_
            clear z0 z2 c0
            have X10 := hide hw10; have H11 := hide h11
            clear hw10 h11
            have HW10 := hide (HW9.out.trans X10.out)
            have HB10 := hide (HB9.out.ext X10.out)
            have HT10 := hide (lat_one_tab H11.out (HLR.out.ext RRow.stab X10.out))
            have HV10 := hide ((HV1.out.past hB1.out seaX_noRow HF9.out).ext X10.out)
            have q0 : w10.cell? ⟨gs, 0, none⟩ = some (.string q.name) := HB10.out.cell 0
            have q1 : w10.cell? ⟨gs, 1, none⟩ = some (.slice A n cA) := HB10.out.cell 1
            have q2 : w10.cell? ⟨gs, 2, none⟩ = some (.slice (some ⟨ab, aoff, none⟩) q.atoms.length d) := HB10.out.cell 2
            have HPT := hide (lat_part (Blk.new w10 102 #[.slice VA N vc, .slice none 0 0]) (HV10.out.ext (Ext.alloc _ _)))
            have XAL := hide (Ext.alloc w10 (.cells #[.slice VA N vc, .slice none 0 0] 102))
            have HSR := hide (HSTP.out r (some ⟨g11, 0, none⟩) 1 (some ⟨w10.heap.size, 0, none⟩) 1 _ (HW10.out.trans XAL.out) (HT10.out.ext RB.stab XAL.out) HRN.out HPT.out)
            have HON := hide (HONE.out r)
            have HLX := hide (HLN.out r)
            have HGN := hide (fun h => HG.out.none HRX.out h)
            have HGO := hide (fun v h hs => HG.out.on (v := v) HRX.out h hs)
            have HGS' := hide (fun v h hs => HG.out.stop (v := v) HRX.out h hs)
            have HGL := hide (fun v h => HG.out.least (v := v) HRX.out h)
            generalize lv.one val r = ov at *
            cases ov with
            | none =>
              simp only [Option.map_none, Option.toList_none, List.length_nil] at HSR
              go_upto_region 15 with ((with_reducible refine HSR.out.mono ?_); rintro e w12 ⟨A12, c12, rfl, l12, x12⟩; have X12 := hide (XAL.out.trans x12); clear x12 l12 q0 q1 q2)
              refine wp_region_ext 19 (by kernel_rfl) (by kernel_rfl) (by kernel_rfl) ?_
              iterate 19
                refine wpE_k (by kernel_rfl) (by kernel_rfl) ?_
                apply Exists.intro
                refine ⟨fun w1 hw1 => ?_, fun K hK => ?_⟩
                · go_simp; first | done | rfl
                go_simp; refine hK _ _ ?_; clear hK K
              refine wpE_nil ⟨rfl, by kernel_rfl, fun w13 hw13 => ?_⟩
              simp only [EndQ, List.drop]
              have X13 := hide (X10.out.trans (X12.out.trans hw13)); clear hw13
              go_wp2_with fail
              go_roundw
              case rel => exact ⟨j + 1, t + 1, R, u, z, by omega, by go_num, HF9.out.ext X13.out, HB9.out.ext X13.out, .inl ⟨ht1, prej, HGN.out (by first | exact rfl | exact trivial)⟩⟩
              case measure => simp [intOf]; omega
            | some v =>
              simp only [Option.map_some, Option.toList_some, List.length_singleton] at HSR
              go_upto_region 15 with ((with_reducible refine HSR.out.mono ?_); rintro e w12 ⟨A12, c12, rfl, l12, x12⟩; have X12 := hide (XAL.out.trans x12); have L12 := hide l12; clear x12 l12 q0 q1 q2)
              obtain ⟨pb, po, x, cs, hA12, hx, hpb, hcl, hone, ⟨A14, n14, c14, B14, m14, d14, xs, rfl, hR14, hN14, hm14⟩, hcell⟩ := L12.out.get (by decide) (show 0 < 1 by decide)
              subst hA12
              obtain rfl : fullV N v = x := by simpa using hx
              obtain rfl : n14 = N := hR14.len.trans (HLX.out v rfl)
              have e1 := cell_ext (show w12.cell? ⟨pb, po, none⟩ = some (.slice A14 n14 c14) from by have := hcell 0 (by decide); simpa using this)
              have e2 := cell_ext (show w12.cell? ⟨b3, off3 + j, none⟩ = some (.slice A10 n10 c10) from X12.out.cell (X10.out.cell HE0.out))
              have HR14 := hide hR14
              have X912 := hide (X10.out.trans X12.out)
              have HTT := hide (show LAt RRow 1 w12 TA trl.length trl from by
                obtain ⟨k1, k2⟩ := rows_past HO1.out HEL1.out hB1.out seaX_noRow HF9.out
                exact (LAt.own rfl k2 k1).ext RRow.stab X912.out)
              clear hx hpb hcl hone hR14 hN14 hm14 hcell
              obtain ⟨i0, hi0, hz0, hz1, hz2⟩ := info_parts infoRw
              have HSZ := hide (show gs < w12.heap.size from (HB9.out.ext X912.out).lt)
              refine wp_region_ext 19 (by kernel_rfl) (by kernel_rfl) (by kernel_rfl) ?_
              iterate 6
                refine wpE_k (by kernel_rfl) (by kernel_rfl) ?_
                apply Exists.intro
                refine ⟨fun w1 hw1 => ?_, fun K hK => ?_⟩
                · go_simp; first | done | rfl
                go_simp; refine hK _ _ ?_; clear hK K
              refine wpE_k (by kernel_rfl) (by kernel_rfl) ?_
              refine ⟨.int .i64 ((trl.length + 1 : Nat) : Int), fun w2 hw2 => ?_, fun K hK => ?_⟩
              · clear e1 e2
                go_simp
                exact IntWalk.i64_in _ (by omega)
              go_simp; refine hK _ _ ?_; clear hK K
              iterate 5
                refine wpE_k (by kernel_rfl) (by kernel_rfl) ?_
                apply Exists.intro
                refine ⟨fun w1 hw1 => ?_, fun K hK => ?_⟩
                · go_simp; first | done | rfl
                go_simp; refine hK _ _ ?_; clear hK K
              refine wpE_p [] (CfIs trl) (fun u w1 w2 _ h2 h => CfIs.ext h h2) rfl (by kernel_rfl) (fun w2 hw2 => ?_) ?_
              · simp only [LookQ]
                clear e1 e2
                go_simp
                refine ⟨Ext.refl _, (HCA.out w2 (HTT.out.ext RRow.stab hw2)).mono ?_⟩
                rintro e w9 ⟨u, rfl, h5, x5⟩
                exact ⟨_, rfl, x5, h5⟩
              iterate 4
                refine wpE_k (by kernel_rfl) (by kernel_rfl) ?_
                apply Exists.intro
                refine ⟨fun w1 hw1 => ?_, fun K hK => ?_⟩
                · go_simp; first | done | rfl
                go_simp; refine hK _ _ ?_; clear hK K
              refine wpE_p [] (SrIs A10 n10 c10) (fun u w1 w2 _ h2 h => SrIs.ext h h2) rfl (by kernel_rfl) (fun w2 hw2 => ?_) ?_
              · simp only [LookQ]
                clear e1 e2
                go_simp
                exact ⟨Ext.alloc _ _, _, rfl, Blk.new _ _ _⟩
              refine wpE_p [111, 116] (RoIs (gs + 1) (trl ++ [r])) (fun u w1 w2 _ h2 h => RoIs.ext h h2) rfl (by kernel_rfl) (fun w2 hw2 => ?_) ?_
              · simp only [LookQ]
                intro u1 hu1 u2 hu2
                obtain ⟨g11, cells11, rfl, hb11, hl11, he11⟩ := hu1 _ rfl
                obtain ⟨g16, rfl, h16⟩ := hu2 _ rfl
                clear hu1 hu2 e1 e2
                obtain ⟨v', w', hrun, ho, hg⟩ := run_append_arg_grows (P := Try.prog) w2 27 27 35 i0 _ 1 24 Try.underlying27 hi0 hz0 hz1 hz2 rfl (by omega) ⟨g11, 0, none⟩ trl.length trl.length cells11 (by omega)
                  (fun j u hj => by rw [add_flat, Nat.zero_add, hb11.cell]; simpa using hj) ⟨g16, 0, none⟩ 1 1 [.slice A10 n10 c10] rfl (fun j u hj => by rw [add_flat, Nat.zero_add, h16.cell]; simpa using hj) (by omega) (by unfold maxLen; omega) (by omega)
                have hv : ∃ A' c', v' = .slice A' (trl.length + 1) c' := by
                  rcases ho.2 with ⟨h5, h6⟩ | ⟨g, cap, cur, h5, _⟩
                  · exact ⟨none, 0, by rw [h5, h6]⟩
                  · exact ⟨_, _, h5⟩
                obtain ⟨A15, c15, rfl⟩ := hv
                have hX : Ext w2 w' := Below.grown (Ext.refl w2) hg (Nat.le_refl _) (fun k hk => by cases hk)
                refine eUpon_append (s := .tmp 111) (x := .tmp 116) (t := 27) (by go_simp) rfl rfl rfl hrun ⟨hX, A15, c15, cells11 ++ [.slice A10 n10 c10], by rw [List.length_append]; rfl, ?_, ?_⟩
                · rw [List.length_append]
                  exact mine_base ho (Nat.lt_of_lt_of_le HSZ.out hw2.size)
                · exact (he11.ext RRow.stab hX).snoc rfl (fun v hv => by obtain rfl := List.mem_singleton.1 hv; rfl) ⟨A10, n10, c10, rfl, (HR10.out.ext (X912.out.trans hw2)).ext hX⟩
              refine wpE_nil ⟨rfl, by kernel_rfl, fun w13 hw13 => ?_⟩
              simp only [EndQ, List.drop]
              rintro _ ⟨A15, c15, cells15, rfl, o15, e15⟩ _ _ _ _
              clear e1 e2
              rw [List.length_append, List.length_singleton] at o15
              have HO15 := hide o15; have HE15 := hide e15; have X13 := hide (X912.out.trans hw13); have HR13 := hide (HR14.out.ext hw13)
              clear o15 e15 hw13
              simp only [List.length_append, List.length_singleton]
              have hix := HIH.out v r (t + 1) w13 A14 c14 A15 c15 cells15 R u z (HON.out v rfl) ht1 (HW9.out.trans X13.out) HRN.out (HB9.out.ext X13.out) HR13.out HO15.out HE15.out
              rw [show ((trl.length + 1 : Nat) : Int) = (trl.length : Int) + 1 from rfl] at hix
              have HIX := hide hix
              clear hix
              go_wp2_with ((with_reducible refine HIX.out.mono ?_); rintro e w16 (⟨rfl, hf16, hn16, R16, u16, z16, hb16⟩ | ⟨rfl, hf16, hn16, R16, u16, z16, hb16, hx16⟩ | ⟨rfl, hf16, hn16, t16, R16, u16, z16, hl16, hb16⟩))
              · go_roundw
                case rel => exact ⟨j + 1, t + 1 + (f v (trl ++ [r])).1, R16, u16, z16, by omega, by go_num, (HF9.out.ext X13.out).trans hf16.out, hb16.out, .inl ⟨hn16.out.1, _, HGO.out v rfl hn16.out.2⟩⟩
                case measure => simp [intOf]; omega
              · go_ret
                obtain ⟨g1, g2, g3⟩ := HGS'.out v rfl hn16.out.2
                refine ⟨(Fr.of_ext X1.out).trans ((HF9.out.ext X13.out).trans hf16.out), .inl ⟨by rw [g1]; exact hn16.out.1, by rw [g3]; rfl, R16, u16, z16, by rw [g1]; exact hb16.out, fun _ => ?_⟩⟩
                obtain ⟨x, hx1, hx2⟩ := hx16.out
                refine ⟨x, ?_, hx2⟩
                rw [List.nil_append] at g2
                rw [g2, List.getLast?_append, hx1]
                rfl
              · go_roundw
                case rel => exact ⟨j + 1, t16, R16, u16, z16, by omega, by go_num, (HF9.out.ext X13.out).trans hf16.out, hb16.out, .inr ⟨hl16.out.1, hl16.out.2, by have h1 := HGL.out v rfl; have h2 := hn16.out; omega⟩⟩
                case measure => simp [intOf]; omega
          · have hgt : (131072 : Int) < (t : Int) + 1 := by omega
            go_wp2_with fail
            go_ret
            refine ⟨((Fr.of_ext (S := fun g => g = gs) X1.out).trans hF.out).setCell (p := ⟨gs, 5, none⟩) (.inl rfl) _, .inr ⟨by have := HMO.out; omega, rfl, t + 1, R, u, z, by omega, by omega, ?_⟩⟩
            have h9 := hB.out.set_ 5 (.int .i64 ((t : Int) + 1))
            simpa [seaX] using h9
        · obtain ⟨ht1, ht2, ht3⟩ := hcs.out
          have HG := hide ht3
          clear hcs ht3
          have hgt : (131072 : Int) < (t : Int) + 1 := by omega
          go_wp2_with fail
          go_ret
          refine ⟨((Fr.of_ext (S := fun g => g = gs) X1.out).trans hF.out).setCell (p := ⟨gs, 5, none⟩) (.inl rfl) _, .inr ⟨HG.out, rfl, t + 1, R, u, z, by omega, by omega, ?_⟩⟩
          have h9 := hB.out.set_ 5 (.int .i64 ((t : Int) + 1))
          simpa [seaX] using h9
      · have hjI : ¬ (j : Int) < (rows.length : Int) := by omega
        go_wp2_with fail
        go_ret
        rcases hcs with hcs | hcs
        · obtain ⟨ht, prej, hG⟩ := hcs.out
          obtain ⟨g1, g2, g3⟩ := hG.end_ (by omega)
          exact ⟨(Fr.of_ext X1.out).trans hF.out, .inl ⟨by rw [g1]; exact ht, by rw [g3]; rfl, R, u, z, by rw [g1]; exact hB.out, fun e => by rw [g3] at e; cases e⟩⟩
        · obtain ⟨ht1, ht2, ht3⟩ := hcs.out
          exact ⟨(Fr.of_ext X1.out).trans hF.out, .inr ⟨ht3, rfl, t, R, u, z, ht1, by omega, hB.out⟩⟩
end Go.Proofs.Ytpfjkjmimmklcaa
