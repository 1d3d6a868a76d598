/-
  The document's Step: the walk.
-/
import Derived.Test.YtpfjkjmimmklcaaNaiStepP
namespace Go.Proofs.Ytpfjkjmimmklcaa
open Go.RowKit

/-- a part: a whole valuation, some numbers -/
def RPart (mx : Nat) : World → List Value → List V → Prop := fun w cs vals => ∃ A n c B m d, ∃ xs : List Int, cs = [.slice A n c, .slice B m d] ∧ RowAt w A n vals ∧ NumAt w B m xs ∧ m ≤ mx
theorem RPart.stab (mx : Nat) : Stab (RPart mx) := fun _ _ _ _ hw ⟨A, n, c, B, m, d, xs, h1, h2, h3, h4⟩ => ⟨A, n, c, B, m, d, xs, h1, h2.ext hw, h3.ext hw, h4⟩
/-- a part of the call's own -/
def RPM (base mx : Nat) : World → List Value → List V → Prop := fun w cs vals => ∃ A n c B m d, ∃ xs : List Int, cs = [.slice A n c, .slice B m d] ∧ n = vals.length ∧ w.ownsRow base 58 3 (.slice A n c) n (cellsR vals) ∧ w.ownsRow base 3 1 (.slice B m d) m (xs.map (Value.int .i64)) ∧ m ≤ mx
theorem RPM.part {base mx : Nat} {w : World} {cs : List Value} {vals : List V} (h : RPM base mx w cs vals) : RPart mx w cs vals := by
  obtain ⟨A, n, c, B, m, d, xs, h1, h2, h3, h4, h5⟩ := h
  exact ⟨A, n, c, B, m, d, xs, h1, RowAt.own h3, NumAt.own h4, h5⟩
theorem RPM.stab (base mx : Nat) : Stab (RPM base mx) := fun _ _ _ _ hw ⟨A, n, c, B, m, d, xs, h1, h2, h3, h4, h5⟩ => ⟨A, n, c, B, m, d, xs, h1, h2, mine_ext h3 hw, mine_ext h4 hw, h5⟩
theorem RPM.rebase {b b' mx : Nat} {w : World} {cs : List Value} {vals : List V} (h : RPM b' mx w cs vals) (hb : b ≤ b') : RPM b mx w cs vals := by
  obtain ⟨A, n, c, B, m, d, xs, h1, h2, h3, h4, h5⟩ := h
  exact ⟨A, n, c, B, m, d, xs, h1, h2, mine_base h3 hb, mine_base h4 hb, h5⟩
theorem RPM.other {b mx b1 s1 n1 : Nat} {w w' : World} {e1 : TypeId} {v1 : Value} {x1 cs : List Value} {vals : List V} (h : RPM b mx w cs vals) (h1 : w.ownsRow b1 e1 s1 v1 n1 x1) (hne : e1 ≠ 58) (hne2 : e1 ≠ 3) (hg : w.grownBy w' v1.ownBlock) : RPM b mx w' cs vals := by
  obtain ⟨A, n, c, B, m, d, xs, h2, h3, h4, h5, h6⟩ := h
  exact ⟨A, n, c, B, m, d, xs, h2, h3, mine_other h4 h1 hne hg, mine_other h5 h1 hne2 hg, h6⟩
theorem infoPt : (Try.prog.info? 102).map (fun i => (i.zero, i.size, i.bytes)) = some (some (.agg #[.slice none 0 0, .slice none 0 0]), 2, 48) := by kernel_rfl
/-- the parts behind one atom more, and the trials; or only these -/
def RetSt (w0 : World) (mx : Nat) (outs : List (List V)) (trials room : Int) (en : Ending) (w' : World) : Prop :=
  if trials ≤ room then ∃ A c cells, en = .returned (.tuple #[.slice A outs.length c, .int .i64 trials]) ∧ w'.ownsRow w0.heap.size 102 2 (.slice A outs.length c) outs.length cells ∧ Els (RPM w0.heap.size mx) 2 w' cells outs ∧ Ext w0 w'
  else ∃ t : Int, room < t ∧ t ≤ 1099511758848 ∧ en = .returned (.tuple #[.slice none 0 0, .int .i64 t]) ∧ Ext w0 w'

theorem RetSt.many {w0 w' : World} {mx : Nat} {outs : List (List V)} {trials room t : Int} {u : Value} (hne : ¬ trials ≤ room) (h1 : room < t) (h2 : t ≤ 1099511758848) (hu : u = .int .i64 t) (h : Ext w0 w') : RetSt w0 mx outs trials room (.returned (.tuple #[.slice none 0 0, u])) w' := by
  unfold RetSt
  rw [if_neg hne]
  exact ⟨t, h1, h2, by rw [hu], h⟩
theorem RetSt.all {w0 w' : World} {mx : Nat} {outs : List (List V)} {trials room t : Int} {A : Option Addr} {k c : Nat} {cells : List Value} (hle : trials ≤ room) (ht : t = trials) (hk : k = outs.length) (h1 : w'.ownsRow w0.heap.size 102 2 (.slice A k c) k cells) (h2 : Els (RPM w0.heap.size mx) 2 w' cells outs) (h : Ext w0 w') :
    RetSt w0 mx outs trials room (.returned (.tuple #[.slice A k c, .int .i64 t])) w' := by
  unfold RetSt
  rw [if_pos hle]
  subst hk; subst ht
  exact ⟨A, c, cells, rfl, h1, h2, h⟩

theorem pre_vars {q : Qy} {j : Nat} {a : Atm} (h : q.atoms[j]? = some a) : (∃ rest, varsQ q = (varsA a).foldl addV (addTs [] (flatT q.atoms j)) ++ rest) ∧ (varsA a).foldl addV (addTs [] (flatT q.atoms j)) = addTs [] (flatT q.atoms (j + 1)) := by
  have e1 : (varsA a).foldl addV (addTs [] (flatT q.atoms j)) = addTs [] (flatT q.atoms (j + 1)) := by
    rw [varsQ_step]
    unfold flatT
    rw [take_next _ _ _ h, List.flatMap_append, addTs_append]
    simp
  refine ⟨?_, e1⟩
  rw [e1, varsQ_flat]
  unfold flatT
  have e2 : q.atoms.flatMap (·.terms) = (q.atoms.take (j + 1)).flatMap (·.terms) ++ (q.atoms.drop (j + 1)).flatMap (·.terms) := by rw [← List.flatMap_append, List.take_append_drop]
  rw [e2, addTs_append]
  exact addTs_pre _ _
theorem at_vars {q : Qy} {j : Nat} {a : Atm} (h : q.atoms[j]? = some a) : ∀ x ∈ varsA a, ∃ p : Nat, p < (varsQ q).length ∧ atN (varsQ q) x = p ∧ firstI (eqB x) (varsQ q) 0 = (p : Int) := fun x hx => by
  have hm : x ∈ varsQ q := by
    rcases (mem_addTs _ _ _).1 hx with h1 | ⟨t, h1, h2, h3⟩
    · cases h1
    · exact mem_vars.2 ⟨a, List.mem_of_getElem? h, t, h1, h2, h3⟩
  obtain ⟨p, h1, h2⟩ := at_mem hm
  exact ⟨p, (List.getElem?_eq_some_iff.1 h2).1, by unfold atN; rw [h1]; rfl, h1⟩
set_option maxHeartbeats 8000000 in
set_option maxRecDepth 100000 in
theorem ref_step (q : Qy) (L : QLoc) (data : List Tbl) (B : Option Addr) (m c : Nat) (parts : List (List V)) (P : Option Addr) (np cp : Nat) (i mx : Nat) (a : Atm) (room : Nat) (w : World) (hq : QAt w L q) (hM : smallM 1048576 q) (hsh : Shaped q)
    (hb : LAt RB 2 w B m data) (hm : m ≤ 1048576) (hsum : (data.flatMap Tbl.rows).length ≤ 1099511627776) (hrow : ∀ t ∈ data, ∀ r ∈ t.rows, r.length ≤ 1048576)
    (hp : LAt (RPart mx) 2 w P np parts) (hpl : ∀ p ∈ parts, p.length = (varsQ q).length) (hmx : mx ≤ 1048576) (hi : q.atoms[i]? = some a) (hroom : room ≤ 131072) (hnp : np ≤ 131072) :
    Calls Try.prog 86 #[qval q.name L, .slice B m c, .slice P np cp, .int .i64 i, .int .i64 room] w
      (RetSt w (mx + 1) (stepR ⟨a, rowsOfP data a.rel, (varsA a).map (atN (varsQ q))⟩ (addTs [] (flatT q.atoms i)).length parts) ((parts.length : Int) * ((rowsOfP data a.rel).length : Int)) room) := by
  have hm6 : L.m ≤ 512 := by have := hq.atoms.len; have := hsh.six; omega
  have HVS := hide (fun w1 (h1 : Ext w w1) => ref_vars q L w1 (hq.ext h1) hM hm6)
  have h60 := vars_sixty hsh
  have HALL := hide (varsQ_flat q)
  have HSH := hide hsh
  have HQ := hide hq
  have HIA := hide (show i < 6 ∧ i < L.m from by have := hq.atoms.len; have := hsh.six; have := (List.getElem?_eq_some_iff.1 hi).1; omega)
  have HRO := hide (fun w1 (h1 : Ext w w1) => ref_rowsOf data a.rel B m c w1 (hb.ext RB.stab h1) hm hsum)
  have HAI := hide hi
  obtain ⟨i0, hi0, hz0, hz1, hz2⟩ := info_parts infoPt
  obtain ⟨j0, hj0, hy0, hy1, hy2⟩ := info_parts infoI
  have HPF := hide (fun (j : Nat) (aj : Atm) (h : q.atoms[j]? = some aj) => pre_vars h)
  have HMV := hide (fun (j : Nat) (aj : Atm) (h : q.atoms[j]? = some aj) => at_vars h)
  have HTB := hide (fun (j : Nat) (aj : Atm) (h : q.atoms[j]? = some aj) => (hsh.atoms aj (List.mem_of_getElem? h)).2.1)
  have HATC := hide (fun (x : ByteArray) (A3 : Option Addr) (n3 c3 : Nat) (w3 : World) (h3 : LAt RS 1 w3 A3 n3 (varsQ q)) => ref_at (varsQ q) x A3 n3 c3 w3 h3 (by have := h3.len; omega))
  clear hq hM hi
  generalize varsQ q = vs at *
  obtain ⟨nm, hd, as_⟩ := q
  obtain ⟨HA, k, cA, AB, km, d⟩ := L
  simp only [qval] at *
  obtain ⟨b, off, a', B1, m1, d1, rfl, hx, hb1, e0, e1, hT⟩ := HQ.out.atoms.at_ HIA.out.2
  obtain rfl : a' = a := Option.some.inj (hx.symm.trans HAI.out)
  have HT := hide hT
  have HTL := hide (show m1 ≤ 5 from by have := hT.len; have := (hsh.atoms a' (List.mem_of_getElem? HAI.out)).2.1; omega)
  have HAVS := hide (fun w1 (h1 : LAt RT 4 w1 B1 m1 a'.terms) => (show Calls Try.prog 21 #[.agg #[.string a'.rel, .slice B1 m1 d1]] w1 (RetS w1 (varsA a')) from ref_atom_vars a'.rel a'.terms B1 m1 d1 w1 h1 (by have := HTL.out; omega)))
  have H0 := hide (show w.cell? ⟨b, off + i * 2, none⟩ = some (.string a'.rel) from e0)
  have H1 := hide (show w.cell? ⟨b, off + i * 2 + 1, none⟩ = some (.slice B1 m1 d1) from e1)
  have him := HIA.out.2
  clear hx hb1 e0 e1 hT
  have HBk := hide (Blk.new w 25 #[.string nm, .slice HA k cA, .slice (some ⟨b, off, none⟩) km d])
  have HE := hide (Ext.alloc w (.cells #[.string nm, .slice HA k cA, .slice (some ⟨b, off, none⟩) km d] 25))
  generalize hW : w.alloc (.cells #[.string nm, .slice HA k cA, .slice (some ⟨b, off, none⟩) km d] 25) = W at *
  have HW := hide hW; clear hW
  have a0 : W.cell? ⟨w.heap.size, 0, none⟩ = some (.string nm) := HBk.out.cell 0
  have a1 : W.cell? ⟨w.heap.size, 1, none⟩ = some (.slice HA k cA) := HBk.out.cell 1
  have a2 : W.cell? ⟨w.heap.size, 2, none⟩ = some (.slice (some ⟨b, off, none⟩) km d) := HBk.out.cell 2
  go_enter Try.func86, Try.ntmps86
  go_wp2_with (first
    | (rw [HW.out]; (with_reducible refine (HVS.out _ HE.out).mono ?_); rintro e w3 ⟨A3, c3, rfl, o3, x3⟩; have X3 := hide x3; have O3 := hide o3.lat; clear o3 x3 a0 a1 a2; have e0 := (HE.out.trans X3.out).cell H0.out; have e1 := (HE.out.trans X3.out).cell H1.out; have a2 : w3.cell? ⟨w.heap.size, 2, none⟩ = some (.slice (some ⟨b, off, none⟩) km d) := (HBk.out.ext X3.out).cell 2)
    | ((with_reducible refine (HAVS.out _ ((HT.out.ext RT.stab (HE.out.trans X3.out)).ext RT.stab (Ext.alloc _ _))).mono ?_); rintro e w4 ⟨A4, c4, rfl, o4, x4⟩; have X4 := hide (X3.out.trans ((Ext.alloc _ _).trans x4)); have O4 := hide o4.lat; have O3a := hide (O3.out.ext RS.stab ((Ext.alloc w3 (.cells #[.string a'.rel, .slice B1 m1 d1] 40)).trans x4)); have HAB := hide ((Blk.new w3 40 #[.string a'.rel, .slice B1 m1 d1]).ext x4); clear o4 x4 e0 e1 a2))
  go_loopw [15, 16, 17, 18, 19] (fun s15 s16 _ _ _ w' => ∃ j : Nat, j ≤ i ∧ s16 = .int .i64 j ∧ s15 = .int .i64 (addTs [] (flatT as_ j)).length ∧ Hid (Ext w4 w')) (fun _ s16 _ _ _ _ => i - (intOf s16).toNat)
  case atStart => exact ⟨0, by omega, rfl, rfl, Ext.refl _⟩
  case round =>
    obtain ⟨j, hji, rfl, rfl, hX⟩ := hrel
    by_cases h : j < i
    · have hXW := hide (HE.out.trans (X4.out.trans hX.out))
      have a2 : wr.cell? ⟨w.heap.size, 2, none⟩ = some (.slice (some ⟨b, off, none⟩) km d) := (HBk.out.ext (X4.out.trans hX.out)).cell 2
      obtain ⟨bb, oo, aj, B5, m5, d5, hA, hx, hb1, e0, e1, hT5⟩ := (HQ.out.atoms.ext RA.stab hXW.out).at_ (show j < km by omega)
      injection hA with hA; injection hA with q1 q2; subst q1; subst q2
      have HX := hide hx
      have HVA := hide (ref_atom_vars aj.rel aj.terms B5 m5 d5 wr hT5 (by have := hT5.len; have := HTB.out j aj hx; omega))
      change Hid (Calls _ _ _ _ (RetS wr (varsA aj))) at HVA
      obtain ⟨⟨rest, hp1⟩, hp2⟩ := HPF.out j aj hx
      have HP1 := hide hp1; have HP2 := hide hp2; have HM := hide (HMV.out j aj hx)
      have hvl : (varsA aj).length ≤ 5 := by have h1 := addTs_len [] aj.terms; have := HTB.out j aj hx; simp only [List.length_nil] at h1; unfold varsA; omega
      clear hx hb1 hT5 hp1 hp2
      have H6 := hide (show (addTs [] (flatT as_ (j + 1))).length ≤ vs.length from by have := congrArg List.length HP1.out; rw [HP2.out, List.length_append] at this; omega)
      generalize varsA aj = va at *
      generalize addTs [] (flatT as_ j) = cur at *
      go_wp2_with ((with_reducible refine HVA.out.mono ?_); rintro e w5 ⟨A5, c5, rfl, o5, x5⟩; have X5 := hide (hX.out.trans x5); have O5 := hide o5.lat; clear o5 x5 e0 e1 a2)
      go_loopw [15, 18, 19] (fun s15 s18 _ w' => ∃ k2 : Nat, k2 ≤ va.length ∧ s18 = .int .i64 k2 ∧ s15 = .int .i64 ((va.take k2).foldl addV cur).length ∧ Hid (Ext w5 w')) (fun _ s18 _ _ => va.length - (intOf s18).toNat)
      case atStart => exact ⟨0, by omega, rfl, rfl, Ext.refl _⟩
      case round =>
        obtain ⟨k2, hk2, rfl, rfl, hX6⟩ := hrel
        by_cases h2 : k2 < va.length
        · obtain ⟨b5, o5, x, rfl, hx, hb1, c0⟩ := (O5.out.ext RS.stab hX6.out).str h2
          obtain ⟨p, hp, hp2, hp3⟩ := HM.out x (List.mem_of_getElem? hx)
          have HS := hide (seen_next HP1.out hx)
          rw [hp2] at HS
          have HAC := hide (HATC.out x A3 vs.length c3 wr (O3a.out.ext RS.stab (X5.out.trans hX6.out)))
          rw [hp3] at HAC
          clear hx hb1 hp2 hp3
          rcases HS.out with ⟨h3, h4⟩ | ⟨h3, h4⟩
          · have H4 := hide h4; clear h4 HS
            generalize hsl : ((va.take k2).foldl addV cur).length = sl at *
            have HSL := hide hsl; clear hsl
            have hnle : ¬ ((sl : Int) ≤ (p : Int)) := by omega
            go_wp2_with ((with_reducible refine HAC.out.mono ?_); rintro e w7 ⟨rfl, rfl⟩)
            go_roundw
            case rel => exact ⟨k2 + 1, by omega, by go_num, by rw [H4.out, HSL.out], hX6.out⟩
            case measure => simp [intOf]; omega
          · have H4 := hide h4; clear h4 HS
            generalize hsl : ((va.take k2).foldl addV cur).length = sl at *
            subst h3
            have HSL := hide hsl; clear hsl
            have hle : (p : Int) ≤ (p : Int) := Int.le_refl _
            go_wp2_with ((with_reducible refine HAC.out.mono ?_); rintro e w7 ⟨rfl, rfl⟩)
            go_roundw
            case rel => exact ⟨k2 + 1, by omega, by go_num, by rw [H4.out]; go_num, hX6.out⟩
            case measure => simp [intOf]; omega
        · obtain rfl : k2 = va.length := by omega
          rw [List.take_length]
          have H7 := hide (show (addTs [] (flatT as_ (j + 1))).length = (va.foldl addV cur).length from by rw [HP2.out])
          go_wp2_with fail
          go_roundw
          case rel => exact ⟨j + 1, by omega, by go_num, by rw [H7.out], X5.out.trans hX6.out⟩
          case measure => simp [intOf]; omega
    · obtain rfl : j = i := by omega
      have hsn : (addTs [] (flatT as_ j)).length ≤ 60 := by
        obtain ⟨⟨rest, hp1⟩, -⟩ := HPF.out j a' HAI.out
        have h1 := congrArg List.length hp1
        rw [List.length_append] at h1
        obtain ⟨r2, hr2⟩ := fold_pre (varsA a') (addTs [] (flatT as_ j))
        rw [hr2, List.length_append] at h1
        omega
      generalize (addTs [] (flatT as_ j)).length = sn at *
      have hROC := hide (HRO.out wr (HE.out.trans (X4.out.trans hX.out)))
      have g0 : wr.cell? ⟨w3.heap.size, 0, none⟩ = some (.string a'.rel) := (HAB.out.ext hX.out).cell 0
      go_wp2_with ((with_reducible refine hROC.out.mono ?_); rintro e w6 ⟨A6, c6, cs6, rfl, o6, t6, x6⟩; have X6 := hide (hX.out.trans x6); have O6 := hide o6; have T6 := hide t6; clear o6 t6 x6 g0)
      have HRS := hide (LAt.own rfl T6.out O6.out)
      have HSUM := hide (show (rowsOfP data a'.rel).length ≤ 1099511627776 from Nat.le_trans (rowsOfP_len' data a'.rel) hsum)
      have HRW := hide (show ∀ x ∈ rowsOfP data a'.rel, x.length ≤ 1048576 from fun x hx => by
        obtain ⟨t, h1, -, h2⟩ := rowsOfP_mem hx
        exact hrow t h1 x h2)
      have XW := hide (HE.out.trans (X4.out.trans X6.out))
      have HP := hide (hp.ext (RPart.stab mx) XW.out)
      have HA6 := hide (HAB.out.ext X6.out)
      have O46 := hide (show LAt RS 1 w6 A4 (varsA a').length (varsA a') from O4.out.ext RS.stab X6.out)
      have O36 := hide (O3a.out.ext RS.stab X6.out)
      have HMT := hide (fun (x : List V) (A9 : Option Addr) (n9 c9 : Nat) (w9 : World) (h9 : Ext w6 w9) (hx : RowAt w9 A9 n9 x) (hn : n9 ≤ 1048576) => ref_match a' x B1 m1 d1 A9 n9 c9 w9 (HT.out.ext RT.stab (XW.out.trans h9)) (by have := HTL.out; omega) hx hn)
      have HPL := hide hpl
      have HMA := hide (HMV.out j a' HAI.out)
      have HML := hide (show ∀ x m, matchA a' x = some m → m.length = (varsA a').length from fun x m h => by
        obtain ⟨τ, -, rfl⟩ := matchA_iff.1 h
        simp)
      have HVL := hide (show (varsA a').length ≤ 5 from by have h1 := addTs_len [] a'.terms; have := HTB.out j a' HAI.out; simp only [List.length_nil] at h1; unfold varsA; omega)
      have HNP := hide hp.len
      have HMX := hide (show mx ≤ 1048576 ∧ room ≤ 131072 ∧ vs.length ≤ 60 from ⟨hmx, hroom, h60⟩)
      clear hp hpl hb hsum hrow HVS HALL HSH HQ HRO HPF HMV HTB HT HBk HE HW hX X4 X3 X6 O3 O4 O3a HAB O6 T6 hROC H0 H1
      generalize rowsOfP data a'.rel = rs at *
      generalize varsA a' = va at *
      go_loopw [21, 22, 23, 24, 25, 26, 27, 28, 29] (fun s21 s22 s23 _ _ _ _ _ _ w' => ∃ (p t k : Nat) (A7 : Option Addr) (c7 : Nat) (cells : List Value), p ≤ np ∧ s23 = .int .i64 p ∧ s21 = .int .i64 t ∧ s22 = .slice A7 k c7 ∧ t ≤ room ∧ Hid (t = p * rs.length) ∧ Hid (k = (stepR ⟨a', rs, va.map (atN vs)⟩ sn (parts.take p)).length) ∧
        Hid (w'.ownsRow w6.heap.size 102 2 (.slice A7 k c7) k cells) ∧ Hid (Els (RPM w6.heap.size (mx + 1)) 2 w' cells (stepR ⟨a', rs, va.map (atN vs)⟩ sn (parts.take p))) ∧ Hid (Ext w6 w')) (fun _ _ s23 _ _ _ _ _ _ _ => np - (intOf s23).toNat)
      case atStart => exact ⟨0, 0, 0, none, 0, [], by omega, rfl, rfl, rfl, by omega, by simp [Hid], rfl, World.ownsRow_nil _ _ _ _, by simpa [Hid, stepR] using Els.nil, Ext.refl _⟩
      case round =>
        obtain ⟨p, t, k, A7, c7, cells, hpn, rfl, rfl, rfl, htr, ht, hk, ho, he, hX⟩ := hrel
        by_cases h : p < np
        · obtain ⟨pb, po, vals, cs, rfl, hvx, hpb, hcl, hone, ⟨A9, n9, c9, B9, m9, d9, xs, rfl, hR9, hN9, hm9⟩, hcell⟩ := HP.out.get (by decide) h
          have D0 := hide (show w6.cell? ⟨pb, po + p * 2, none⟩ = some (.slice A9 n9 c9) from by have := hcell 0 (by decide); simpa using this)
          have D1 := hide (show w6.cell? ⟨pb, po + p * 2 + 1, none⟩ = some (.slice B9 m9 d9) from by have := hcell 1 (by decide); simpa using this)
          have HVX := hide (HPL.out vals (List.mem_of_getElem? hvx))
          have HST := hide (show stepR ⟨a', rs, va.map (atN vs)⟩ sn (parts.take (p + 1)) = stepR ⟨a', rs, va.map (atN vs)⟩ sn (parts.take p) ++ rs.filterMap (oneR ⟨a', rs, va.map (atN vs)⟩ sn vals) from stepR_take hvx)
          have HSL := hide (show (stepR ⟨a', rs, va.map (atN vs)⟩ sn (parts.take p)).length ≤ t from by
            have h1 := stepR_len ⟨a', rs, va.map (atN vs)⟩ sn (parts.take p)
            have h2 := HNP.out
            rw [List.length_take, Nat.min_eq_left (by omega), ← ht.out] at h1
            exact h1)
          have HF := hide (show ∀ x, oneR ⟨a', rs, va.map (atN vs)⟩ sn vals x = (matchA a' x).bind fun m => if (joinR sn vals (va.map (atN vs)) m true).2 then some (joinR sn vals (va.map (atN vs)) m true).1 else none from fun x => rfl)
          have HR9 := hide hR9; have HN9 := hide hN9; have HM9 := hide hm9
          clear hvx hpb hcl hone hR9 hN9 hcell hm9
          generalize stepR ⟨a', rs, va.map (atN vs)⟩ sn (parts.take p) = L0 at *
          generalize oneR ⟨a', rs, va.map (atN vs)⟩ sn vals = f at *
          have hRs := HSUM.out
          have hrm := HMX.out.2.1
          by_cases hgt : room < t + rs.length
          · have hgt' : (room : Int) < (t : Int) + (rs.length : Int) := by omega
            go_wp2_with fail
            go_ret2
            refine RetSt.many ?_ (t := t + rs.length) (by omega) (by omega) (by go_num) (XW.out.trans hX.out)
            have h5 : (p + 1) * rs.length ≤ np * rs.length := Nat.mul_le_mul_right _ h
            rw [Nat.add_mul, Nat.one_mul, ← ht.out] at h5
            rw [← HNP.out]
            intro h6
            have : (np * rs.length : Nat) ≤ room := by exact_mod_cast h6
            omega
          · have hgt' : ¬ ((room : Int) < (t : Int) + (rs.length : Int)) := by omega
            go_wp2_with fail
            go_loopw [22, 24, 25, 26, 27, 28, 29] (fun s22 s24 _ _ _ _ _ w' => ∃ (r k : Nat) (A7 : Option Addr) (c7 : Nat) (cells : List Value), r ≤ rs.length ∧ s24 = .int .i64 r ∧ s22 = .slice A7 k c7 ∧ Hid (k = (L0 ++ (rs.take r).filterMap f).length) ∧
              Hid (w'.ownsRow w6.heap.size 102 2 (.slice A7 k c7) k cells) ∧ Hid (Els (RPM w6.heap.size (mx + 1)) 2 w' cells (L0 ++ (rs.take r).filterMap f)) ∧ Hid (Ext w6 w')) (fun _ s24 _ _ _ _ _ _ => rs.length - (intOf s24).toNat)
            case atStart => exact ⟨0, k, A7, c7, cells, by omega, rfl, rfl, by simpa [Hid] using hk, ho, by simpa [Hid] using he, hX⟩
            case round =>
              clear hk ho he hX
              obtain ⟨r, k, A7, c7, cells, hrn, rfl, rfl, hk, ho, he, hX⟩ := hrel
              by_cases h2 : r < rs.length
              · obtain ⟨rb, ro, x, A8, n8, c8, hA6, hxr, hrb, d0, hR8⟩ := (HRS.out.ext RRow.stab hX.out).row_ h2
                subst hA6
                have c0 := cell_ext (show wr.cell? ⟨w3.heap.size, 0, none⟩ = some (.string a'.rel) from (HA6.out.ext hX.out).cell 0)
                have c1 := cell_ext (show wr.cell? ⟨w3.heap.size, 1, none⟩ = some (.slice B1 m1 d1) from (HA6.out.ext hX.out).cell 1)
                have e0 := cell_ext d0
                have HCM := hide (fun w9 (h9 : Ext wr w9) => HMT.out x A8 n8 c8 w9 (hX.out.trans h9) (hR8.ext h9) (by have := HRW.out x (List.mem_of_getElem? hxr); have := hR8.len; omega))
                have HFT := hide (filterMap_take (f := f) hxr)
                have HFX := hide (HF.out x)
                have HMLX := hide (HML.out x)
                clear hxr hrb d0 hR8
                generalize matchA a' x = res at *
                cases res with
                | none =>
                  go_upto_region 27 with fail
                  refine wp_region_ext 11 (by kernel_rfl) (by kernel_rfl) (by kernel_rfl) ?_
                  iterate 11
                    refine wpE_k (by kernel_rfl) (by kernel_rfl) ?_
                    apply Exists.intro
                    refine ⟨fun w1 hw1 => ?_, fun K hK => ?_⟩
                    · go_simp; first | done | rfl | exact HCM.out w1 hw1
                    go_simp; refine hK _ _ ?_; clear hK K
                  refine wpE_nil ⟨rfl, by kernel_rfl, fun wq hwq => ?_⟩
                  simp only [EndQ]
                  refine wpList_nil ?_
                  clear c0 c1 e0
                  go_wp2_with fail
                  go_roundw
                  case rel =>
                    have h7 : f x = none := by rw [HFX.out]; rfl
                    exact ⟨r + 1, k, A7, c7, cells, by omega, by go_num, rfl, by rw [Hid, HFT.out, h7, Option.toList_none, List.append_nil]; exact hk.out, mine_ext ho.out hwq, by rw [Hid, HFT.out, h7, Option.toList_none, List.append_nil]; exact he.out.ext (RPM.stab _ _) hwq, hX.out.trans hwq⟩
                  case measure => simp [intOf]; omega
                | some out =>
                  go_upto_region 27 with fail
                  refine wp_region_ext 11 (by kernel_rfl) (by kernel_rfl) (by kernel_rfl) ?_
                  iterate 5
                    refine wpE_k (by kernel_rfl) (by kernel_rfl) ?_
                    apply Exists.intro
                    refine ⟨fun w1 hw1 => ?_, fun K hK => ?_⟩
                    · go_simp; first | done | rfl
                    go_simp; refine hK _ _ ?_; clear hK K
                  refine wpE_p [] (MtIs out) (fun u w1 w2 _ h2 h => MtIs.ext h h2) rfl (by kernel_rfl) (fun w1 hw1 => ?_) ?_
                  · simp only [LookQ]
                    clear c0 c1 e0
                    go_simp
                    exact ⟨Ext.refl _, (HCM.out w1 hw1).mono fun e w9 ⟨g, h1, _, h2, h3⟩ => ⟨_, h1, h3, g, rfl, h2⟩⟩
                  refine wpE_p [97] (MtIs out) (fun u w1 w2 _ h2 h => MtIs.ext h h2) rfl (by kernel_rfl) (fun w1 hw1 => ?_) ?_
                  · simp only [LookQ]
                    rintro _ hu
                    obtain ⟨g, rfl, h7⟩ := hu _ rfl
                    clear hu c0 c1 e0
                    go_simp
                    exact ⟨Ext.refl _, g, rfl, h7⟩
                  refine wpE_p [91] (MvIs out) (fun u w1 w2 _ h2 h => MvIs.ext h h2) rfl (by kernel_rfl) (fun w1 hw1 => ?_) ?_
                  · simp only [LookQ]
                    rintro _ hu
                    obtain ⟨g, rfl, h7⟩ := hu _ rfl
                    clear hu c0 c1 e0
                    go_simp
                    exact ⟨Ext.refl _, g, rfl, h7⟩
                  refine wpE_kp [91] (.bool true) (by kernel_rfl) (by kernel_rfl) (fun w1 hw1 => ?_) (fun K hK => ?_)
                  · simp only [LookQ]
                    rintro _ hu
                    obtain ⟨g, rfl, h7⟩ := hu _ rfl
                    clear hu c0 c1 e0
                    go_simp
                    exact Ext.refl _
                  go_simp; refine hK _ _ ?_; clear hK K
                  refine wpE_p [98] (MvIs out) (fun u w1 w2 _ h2 h => MvIs.ext h h2) rfl (by kernel_rfl) (fun w1 hw1 => ?_) ?_
                  · simp only [LookQ]
                    rintro _ hu
                    obtain ⟨g, rfl, h7⟩ := hu _ rfl
                    clear hu c0 c1 e0
                    go_simp
                    exact ⟨Ext.refl _, g, rfl, h7⟩
                  iterate 1
                    refine wpE_k (by kernel_rfl) (by kernel_rfl) ?_
                    apply Exists.intro
                    refine ⟨fun w1 hw1 => ?_, fun K hK => ?_⟩
                    · go_simp; first | done | rfl
                    go_simp; refine hK _ _ ?_; clear hK K
                  refine wpE_nil ⟨rfl, by kernel_rfl, fun w1 hw1 => ?_⟩
                  simp only [EndQ, List.drop]
                  rintro _ ⟨gm, rfl, hgm⟩ _ _ _ _ _ _
                  refine wpList_nil ?_
                  clear c0 c1 e0
                  have X7 := hide (hX.out.trans hw1)
                  have HGM := hide hgm
                  have ho := hide (mine_ext ho.out hw1)
                  have he := hide (he.out.ext (RPM.stab _ _) hw1)
                  have HOL := hide (show out.length = va.length from HMLX.out out rfl)
                  have HCP := hide (copy_any vals A9 n9 c9 w1 (HR9.out.ext X7.out) (by have := HR9.out.len; have := HVX.out; have := HMX.out.2.2; omega))
                  have e0 : w1.cell? ⟨pb, po + p * 2, none⟩ = some (.slice A9 n9 c9) := X7.out.cell D0.out
                  clear hgm hw1 hX HCM HMLX
                  go_wp2_with ((with_reducible refine HCP.out.mono ?_); rintro e w7 ⟨Av, cv, rfl, ov, xv⟩; have OV := hide ov; have XV := hide xv; clear ov xv e0)
                  go_loopw [26, 28, 29] (fun s26 s28 _ w' => ∃ (q : Nat) (v2 : List V) (ok : Bool), q ≤ va.length ∧ s28 = .int .i64 q ∧ s26 = .bool ok ∧ Hid ((v2, ok) = joinR sn vals ((va.map (atN vs)).take q) (out.take q) true) ∧ Hid (w'.ownsRow w1.heap.size 58 3 (.slice Av n9 cv) n9 (cellsR v2)) ∧ Hid (Ext w1 w')) (fun _ s28 _ _ => va.length - (intOf s28).toNat)
                  case atStart => exact ⟨0, vals, true, by omega, rfl, rfl, by simp [Hid, joinR], OV.out, XV.out⟩
                  case round =>
                    obtain ⟨q, v2, ok, hqn, rfl, rfl, hj, hov, hX8⟩ := hrel
                    by_cases h3 : q < va.length
                    · obtain ⟨vb, vo, y, rfl, hy, hvb, f0⟩ := (O46.out.ext RS.stab (X7.out.trans hX8.out)).str h3
                      obtain ⟨pp, hpp, hp2, hp3⟩ := HMA.out y (List.mem_of_getElem? hy)
                      have hol : q < out.length := by rw [HOL.out]; exact h3
                      have hz : out[q]? = some out[q] := List.getElem?_eq_getElem (by have := HOL.out; omega)
                      generalize out[q] = z at hz
                      have hks : (va.map (atN vs))[q]? = some pp := by rw [List.getElem?_map, hy, ← hp2]; rfl
                      have hlen : v2.length = vs.length := by
                        have h5 := congrArg Prod.fst hj.out
                        simp only at h5
                        rw [h5, joinR_len, HVX.out]
                      have hv : v2[pp]? = some v2[pp] := List.getElem?_eq_getElem (by omega)
                      generalize v2[pp] = y0 at hv
                      have HJT := hide (joinR_take sn (va.map (atN vs)) out vals true q pp z hks hz)
                      rw [← hj.out] at HJT
                      simp only at HJT
                      obtain ⟨g0, g1, g2⟩ := blkR_at (HGM.out.ext hX8.out) hz
                      obtain ⟨bv, rfl, hbv, hput⟩ := own_blkX hov.out hv
                      have HPUT := hide hput
                      have HGB := hide (show getB v2 pp z = sameV y0 z from getB_of hv)
                      have hpn9 : pp < n9 := by have := HR9.out.len; have := HVX.out; omega
                      have HBV := hide hbv
                      have HAC := hide (HATC.out y A3 vs.length c3 wr (O36.out.ext RS.stab (X7.out.trans hX8.out)))
                      rw [hp3] at HAC
                      clear hy hvb hz hks hv hput hp2 hp3 hbv hlen
                      have hva5 := HVL.out
                      by_cases hps : pp < sn
                      · have hps' : (pp : Int) < (sn : Int) := by omega
                        rw [if_pos hps] at HJT
                        cases ok with
                        | true =>
                          go_upto_region 35 with ((with_reducible refine HAC.out.mono ?_); rintro e w8 ⟨rfl, rfl⟩)
                          have g0 := cell_ext g0
                          have g1 := cell_ext g1
                          have g2 := cell_ext g2
                          obtain ⟨l0, l1, l2⟩ := (HPUT.out wr (Ext.refl _)).1
                          have l0 := cell_ext l0
                          have l1 := cell_ext l1
                          have l2 := cell_ext l2
                          refine wp_region_ext 13 (by kernel_rfl) (by kernel_rfl) (by kernel_rfl) ?_
                          iterate 10
                            refine wpE_k (by kernel_rfl) (by kernel_rfl) ?_
                            apply Exists.intro
                            refine ⟨fun w1 hw1 => ?_, fun K hK => ?_⟩
                            · go_simp; first | done | rfl
                            go_simp; refine hK _ _ ?_; clear hK K
                          refine wpE_k (by kernel_rfl) (by kernel_rfl) ?_
                          refine ⟨.bool (sameV y0 z), fun w1 hw1 => ?_, fun K hK => ?_⟩
                          · clear g0 g1 g2 l0 l1 l2
                            go_simp
                            unfold sameV
                            have ht := toList_iff y0.t z.t
                            by_cases h1 : y0.k = z.k <;> by_cases h2 : y0.i = z.i <;> by_cases h3 : y0.t = z.t <;> simp [h1, h2, h3, ht]
                          go_simp; refine hK _ _ ?_; clear hK K
                          iterate 2
                            refine wpE_k (by kernel_rfl) (by kernel_rfl) ?_
                            apply Exists.intro
                            refine ⟨fun w1 hw1 => ?_, fun K hK => ?_⟩
                            · go_simp; first | done | rfl
                            go_simp; refine hK _ _ ?_; clear hK K
                          refine wpE_nil ⟨rfl, by kernel_rfl, fun wq hwq => ?_⟩
                          simp only [EndQ]
                          refine wpList_nil ?_
                          have g0 := g0 wq hwq
                          have g1 := g1 wq hwq
                          have g2 := g2 wq hwq
                          obtain ⟨⟨l0, l1, l2⟩, hfr, hput⟩ := HPUT.out wq hwq
                          have q0 := hfr (pp * 3)
                          have q1 := hfr (pp * 3 + 1)
                          have q2 := hfr (pp * 3 + 2)
                          have hX8 := hide (hX8.out.trans hwq)
                          have HPT := hide hput
                          clear hput hfr hwq
                          go_wp2_with fail
                          go_roundw
                          case rel => exact ⟨q + 1, _, sameV y0 z, by omega, by go_num, rfl, by rw [Hid, HJT.out, HGB.out, Bool.true_and], HPT.out z, ext_put hX8.out HBV.out _ _ _⟩
                          case measure => simp [intOf]; omega
                        | false =>
                          go_upto_region 35 with ((with_reducible refine HAC.out.mono ?_); rintro e w8 ⟨rfl, rfl⟩)
                          have g0 := cell_ext g0
                          have g1 := cell_ext g1
                          have g2 := cell_ext g2
                          refine wp_region_ext 13 (by kernel_rfl) (by kernel_rfl) (by kernel_rfl) ?_
                          iterate 13
                            refine wpE_k (by kernel_rfl) (by kernel_rfl) ?_
                            apply Exists.intro
                            refine ⟨fun w1 hw1 => ?_, fun K hK => ?_⟩
                            · go_simp; first | done | rfl
                            go_simp; refine hK _ _ ?_; clear hK K
                          refine wpE_nil ⟨rfl, by kernel_rfl, fun wq hwq => ?_⟩
                          simp only [EndQ]
                          refine wpList_nil ?_
                          have g0 := g0 wq hwq
                          have g1 := g1 wq hwq
                          have g2 := g2 wq hwq
                          obtain ⟨⟨l0, l1, l2⟩, hfr, hput⟩ := HPUT.out wq hwq
                          have q0 := hfr (pp * 3)
                          have q1 := hfr (pp * 3 + 1)
                          have q2 := hfr (pp * 3 + 2)
                          have hX8 := hide (hX8.out.trans hwq)
                          have HPT := hide hput
                          clear hput hfr hwq
                          go_wp2_with fail
                          go_roundw
                          case rel => exact ⟨q + 1, _, false, by omega, by go_num, rfl, by rw [Hid, HJT.out, Bool.false_and], HPT.out z, ext_put hX8.out HBV.out _ _ _⟩
                          case measure => simp [intOf]; omega
                      · have hps' : ¬ ((pp : Int) < (sn : Int)) := by omega
                        rw [if_neg hps] at HJT
                        obtain ⟨⟨l0, l1, l2⟩, hfr, hput⟩ := HPUT.out wr (Ext.refl _)
                        have q0 := hfr (pp * 3)
                        have q1 := hfr (pp * 3 + 1)
                        have q2 := hfr (pp * 3 + 2)
                        have HPT := hide hput
                        clear hput hfr
                        go_wp2_with ((with_reducible refine HAC.out.mono ?_); rintro e w8 ⟨rfl, rfl⟩)
                        go_roundw
                        case rel => exact ⟨q + 1, _, ok, by omega, by go_num, rfl, HJT.out.symm, HPT.out z, ext_put hX8.out HBV.out _ _ _⟩
                        case measure => simp [intOf]; omega
                    · obtain rfl : q = va.length := by omega
                      have h5 := hj.out
                      rw [List.take_of_length_le (by simp), List.take_of_length_le (by have := HOL.out; omega)] at h5
                      have HJ := hide h5; clear h5 hj
                      cases ok with
                      | false =>
                        go_wp2_with fail
                        go_roundw
                        case rel =>
                          have h7 : f x = none := by rw [HFX.out]; simp only [Option.bind_some]; rw [← HJ.out]; rfl
                          exact ⟨r + 1, k, A7, c7, cells, by omega, by go_num, rfl, by rw [Hid, HFT.out, h7, Option.toList_none, List.append_nil]; exact hk.out, mine_ext ho.out hX8.out, by rw [Hid, HFT.out, h7, Option.toList_none, List.append_nil]; exact he.out.ext (RPM.stab _ _) hX8.out, X7.out.trans hX8.out⟩
                        case measure => simp [intOf]; omega
                      | true =>
                        have X8 := hide (X7.out.trans hX8.out)
                        have e1 : wr.cell? ⟨pb, po + p * 2 + 1, none⟩ = some (.slice B9 m9 d9) := X8.out.cell D1.out
                        have HIC := hide (ints_any xs B9 m9 d9 wr (HN9.out.ext X8.out) (by have := HM9.out; have := HMX.out.1; omega))
                        have ho := hide (mine_ext ho.out hX8.out)
                        have he := hide (he.out.ext (RPM.stab _ _) hX8.out)
                        have HKR := hide (show k ≤ 131072 from by
                          have h1 := hk.out
                          have h2 := HSL.out
                          have h3 := List.length_filterMap_le f (rs.take r)
                          rw [List.length_append] at h1
                          rw [List.length_take] at h3
                          omega)
                        have HM1 := hide (show m9 ≤ 1048576 from by have := HM9.out; have := HMX.out.1; omega)
                        go_wp2_with (first
                          | ((with_reducible refine HIC.out.mono ?_); rintro e w8 ⟨Ai, ci, rfl, oi, xi⟩; have OI := hide oi; have XI := hide xi; clear oi xi e1)
                          | (at_builtin; refine wpList_append_sl rfl (.tmp 150) (.tmp 152) _ rfl 3 j0 _ 1 8 Try.underlying100 hj0 hy0 hy1 hy2 rfl (by omega) wr (XI.out.alloc' _) _ m9 _ rfl (mine_ext OI.out (Ext.alloc _ _)) _ 1 1 [.int .i64 r] rfl ((Blk.new _ _ _).sl (n := 1) (size := 1) rfl) (by intro v hv; obtain rfl := List.mem_singleton.1 hv; rfl) (by have := HM1.out; unfold maxLen; omega) (by have := HM1.out; omega) ?_; intro A10 c10 w10 own10 E10 G10 L10; clear G10 L10)
                          | (at_builtin; refine wpList_append_sl rfl (.tmp 143) (.tmp 155) _ rfl 102 i0 _ 2 48 Try.underlying97 hi0 hz0 hz1 hz2 rfl (by omega) w6 (X8.out.trans (E10.out.alloc' _)) _ k _ rfl (mine_ext ho.out (E10.out.alloc' _)) _ 1 1 [.slice Av n9 cv, .slice A10 (m9 + 1) c10] rfl ((Blk.new _ _ _).sl (n := 1) (size := 2) rfl) (by intro v hv; simp only [List.mem_cons, List.not_mem_nil, or_false] at hv; rcases hv with rfl | rfl <;> rfl) (by have := HKR.out; unfold maxLen; omega) (by have := HKR.out; omega) ?_; intro A12 c12 w12 own12 E12 G12 L12))
                        go_roundw
                        case rel =>
                          have h7 : f x = some v2 := by rw [HFX.out]; simp only [Option.bind_some]; rw [← HJ.out]; rfl
                          have hal : Ext wr (w10.alloc (.cells #[.slice Av n9 cv, .slice A10 (m9 + 1) c10] 102)) := E10.out.alloc' _
                          have hvl : n9 = v2.length := by
                            have h5 := congrArg Prod.fst HJ.out
                            simp only at h5
                            rw [h5, joinR_len, HR9.out.len]
                          refine ⟨r + 1, k + 1, A12, c12, _, by omega, by go_num, rfl, ?_, own12.out, ?_, E12.out⟩
                          · rw [Hid, HFT.out, h7, Option.toList_some, ← List.append_assoc, List.length_append, List.length_singleton, ← hk.out]
                          · rw [Hid, HFT.out, h7, Option.toList_some, ← List.append_assoc]
                            refine ((he.out.ext (RPM.stab _ _) hal).mono fun _ _ h => h.other (mine_ext ho.out hal) (by decide) (by decide) G12.out).snoc rfl (by intro v hv; simp only [List.mem_cons, List.not_mem_nil, or_false] at hv; rcases hv with rfl | rfl <;> rfl) ⟨Av, n9, cv, A10, m9 + 1, c10, xs ++ [(r : Int)], rfl, hvl, ?_, ?_, by have := HM9.out; omega⟩
                            · exact mine_other (mine_base (mine_ext hov.out hal) X7.out.size) (mine_ext ho.out hal) (by decide) G12.out
                            · have h8 := mine_other (mine_base (mine_ext own10.out (Ext.alloc _ _)) X8.out.size) (mine_ext ho.out hal) (by decide) G12.out
                              rw [List.map_append, List.map_singleton]
                              exact h8
                        case measure => simp [intOf]; omega
              · obtain rfl : r = rs.length := by omega
                go_wp2_with fail
                go_roundw
                case rel =>
                  have h7 := hk.out
                  have h8 := he.out
                  rw [List.take_of_length_le (Nat.le_refl _), ← HST.out] at h7 h8
                  exact ⟨p + 1, t + rs.length, k, A7, c7, cells, by omega, by go_num, by go_num, rfl, by omega, by rw [Hid, Nat.add_mul, Nat.one_mul, ht.out], h7, ho.out, h8, hX.out⟩
                case measure => simp [intOf]; omega
        · obtain rfl : p = np := by omega
          have h7 := hk.out
          have h8 := he.out
          rw [List.take_of_length_le (by have := HNP.out; omega)] at h7 h8
          have H7 := hide h7; have H8 := hide h8; clear h7 h8
          go_wp2_with fail
          go_ret2
          refine RetSt.all ?_ (t := t) (by rw [ht.out, ← HNP.out]; simp) H7.out (mine_base ho.out XW.out.size) (H8.out.mono fun _ _ h => h.rebase XW.out.size) (XW.out.trans hX.out)
          rw [← HNP.out]
          have : (p * rs.length : Nat) ≤ room := by rw [← ht.out]; exact htr
          exact_mod_cast this
end Go.Proofs.Ytpfjkjmimmklcaa
