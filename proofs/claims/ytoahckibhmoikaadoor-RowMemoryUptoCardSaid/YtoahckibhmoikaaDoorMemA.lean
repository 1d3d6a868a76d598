/-
  RowMemory: the walk's state as one list of things, each with its blocks. (UNDER WAY: the walk up to its first loop.)
-/
import Derived.Test.YtoahckibhmoikaaDoorMemK
import Derived.IntWalk
import Derived.Test.YtoahckibhmoikaaDoorLawUnp
import Derived.Test.YtoahckibhmoikaaDoorLawArr
namespace Go.Proofs.YtoahckibhmoikaaDoor
open Go.RowKit

/-- a thing: its blocks' first and last number, what holds -/
abbrev Thing : Type := Nat × Nat × (World → Prop)
def All : List Thing → World → Prop
  | [], _ => True
  | x :: l, w => In x.1 x.2.1 x.2.2 w ∧ All l w
theorem All.ext {w w' : World} (k : Ext w w') : ∀ {l : List Thing}, All l w → All l w'
  | [], _ => trivial
  | _ :: _, h => ⟨h.1.ext k, All.ext k h.2⟩
theorem All.cons {w : World} {lo hi : Nat} {P : World → Prop} {l : List Thing} (h : In lo hi P w) (k : All l w) : All ((lo, hi, P) :: l) w := ⟨h, k⟩
theorem All.nil (w : World) : All [] w := trivial
theorem All.erase {w : World} : ∀ (k : Nat) {l : List Thing}, All l w → All (l.eraseIdx k) w
  | _, [], _ => trivial
  | 0, _ :: _, h => h.2
  | k + 1, _ :: _, h => ⟨h.1, All.erase k h.2⟩
def Free (lo hi : Nat) : List Thing → Prop
  | [] => True
  | x :: l => (x.2.1 ≤ lo ∨ hi ≤ x.1) ∧ Free lo hi l
theorem All.wr {lo hi : Nat} {w w' : World} (k : Wr lo hi w w') : ∀ {l : List Thing}, All l w → Free lo hi l → All l w'
  | [], _, _ => trivial
  | _ :: _, h, f => ⟨h.1.wr k f.1, All.wr k h.2 f.2⟩

/-- what a call hands back as memory of its own: rows, bytes -/
theorem RetOwn.made {w0 w' : World} {e : TypeId} {s n : Nat} {xs : List Value} {en : Ending} (h : RetOwn w0 e s n xs en w') : ∃ A c, en = .returned (.slice A n c) ∧ In w0.heap.size w'.heap.size (Own w0.heap.size w'.heap.size e s (.slice A n c) n xs) w' ∧ Ext w0 w' := by
  obtain ⟨A, c, he, ho, hE⟩ := h
  exact ⟨A, c, he, In.own ho, hE⟩
theorem RetRowErr.made {w0 w' : World} {e : TypeId} {res : List V × Int} {en : Ending} (h : RetRowErr w0 e res en w') : ∃ A c, en = .returned (.tuple #[.slice A res.1.length c, .int .i64 res.2]) ∧ In w0.heap.size w'.heap.size (Own w0.heap.size w'.heap.size e 3 (.slice A res.1.length c) res.1.length (cellsR res.1)) w' ∧ Ext w0 w' := by
  obtain ⟨A, c, he, ho, hE⟩ := h
  exact ⟨A, c, he, In.own ho, hE⟩
theorem RetBytesErr.made {w0 w' : World} {res : List UInt8 × Int} {en : Ending} (h : RetBytesErr w0 res en w') : ∃ A c, en = .returned (.tuple #[.slice A res.1.length c, .int .i64 res.2]) ∧ In w0.heap.size w'.heap.size (Own w0.heap.size w'.heap.size 5 1 (.slice A res.1.length c) res.1.length (bcells res.1)) w' ∧ Ext w0 w' := by
  obtain ⟨A, c, he, ho, hE⟩ := h
  exact ⟨A, c, he, In.own ho, hE⟩
theorem RetRows.madeIn {w0 w' : World} {rows : List (List V)} {en : Ending} (h : RetRows w0 rows en w') : ∃ A c, en = .returned (.slice A rows.length c) ∧ In w0.heap.size w'.heap.size (RowsOwn w0.heap.size w'.heap.size A rows.length c rows) w' ∧ Ext w0 w' := by
  obtain ⟨A, n, c, cells, rfl, rfl, h3, h4, h5⟩ := h
  exact ⟨A, c, rfl, In.rowsOwn rfl h3 h4, h5⟩

theorem same_row {r : List V} {A B : Option Addr} {n m c d : Nat} {w : World} (ha : RowAt w A n r) (hb : RowAt w B m r) (hn : n ≤ 140737488355328) :
    Calls Tryd.prog 25 #[.slice A n c, .slice B m d] w fun e w' => e = .returned (.bool true) ∧ Ext w w' := by
  have h := same_any r r A B n m c d w ha hb hn
  rw [sameR_refl] at h
  exact h

set_option maxHeartbeats 4000000 in
set_option maxRecDepth 100000 in
theorem law_memory (r : List V) (cols : List Int) (rows : List (List V)) (A B C : Option Addr) (n m k c d e' : Nat) (w : World) (ha : RowAt w A n r) (hn : n ≤ 1048576) (hs : smallR r) (hw : wfR r) (hb : NumAt w B m cols) (hm : m ≤ 1048576) (_hwb : wfI cols)
    (hc : LAt RRow 1 w C k rows) (_hk : k ≤ e') (hkn : k ≤ 1048576) (hr : RowsOk rows) (_hwr : ∀ x ∈ rows, wfR x) :
    Calls Tryd.prog 15 #[.slice A n c, .slice B m d, .slice C k e'] w fun e w' => e = .returned (.bool true) ∧ Ext w w' := by
  have Ha := hide ha; have Hb := hide hb; have Hc := hide hc
  obtain rfl := ha.len
  obtain rfl := hb.len
  obtain rfl := hc.len
  have hp1 : (projR r cols).1.length ≤ cols.length := projR_len r cols
  have hp2 := packRes_len r
  have hp3 := arr_len rows
  obtain ⟨p, Hp⟩ : ∃ p, Hid (p = projR r cols) := ⟨_, rfl⟩
  obtain ⟨b, Hbb⟩ : ∃ b, Hid (b = packRes r) := ⟨_, rfl⟩
  obtain ⟨a, Har⟩ : ∃ a, Hid (a = arrP rows) := ⟨_, rfl⟩
  have HCR := hide (fun A1 c1 w1 (h1 : RowAt w1 A1 r.length r) => copy_any r A1 r.length c1 w1 h1 (by omega))
  have HCA := hide (fun A1 c1 w1 (h1 : LAt RRow 1 w1 A1 rows.length rows) => copy_all rows A1 rows.length c1 w1 h1 (by omega) (fun x h => by have := (hr x h).1; omega))
  have HIN := hide (fun w1 (h1 : Ext w w1) => ints_any cols B cols.length d w1 (hb.ext h1) (by omega))
  have HPR := hide (fun A1 c1 B1 d1 w1 (h1 : RowAt w1 A1 r.length r) (h2 : NumAt w1 B1 cols.length cols) => proj_any r cols A1 B1 r.length cols.length c1 d1 w1 h1 h2 hn hm)
  have HPK := hide (fun A1 c1 w1 (h1 : RowAt w1 A1 r.length r) => row_pack r A1 r.length c1 w1 h1 hn hs hw)
  have HAR := hide (fun A1 c1 w1 (h1 : LAt RRow 1 w1 A1 rows.length rows) => arrange_any rows A1 rows.length c1 w1 h1 (by omega) (fun x h => by have := (hr x h).1; omega))
  simp only [← Hp.out] at hp1 HPR
  simp only [← Hbb.out] at hp2 HPK
  simp only [← Har.out] at hp3 HAR
  obtain ⟨dd, Hdd⟩ : ∃ dd, Hid (dd = decR b.1) := ⟨_, rfl⟩
  have hp4 : dd.1.length ≤ 30 := by rw [Hdd.out]; exact (decR_small b.1).1
  have HUN := hide (fun A1 c1 w1 (h1 : BytesAt w1 A1 b.1.length b.1) (h2 : b.1.length ≤ c1) => row_unpack b.1 A1 b.1.length c1 w1 h1 (by omega) h2)
  have HUR := hide (fun A1 c1 w1 (h1 : BytesAt w1 A1 b.1.length b.1) => ref_unpack b.1 A1 b.1.length c1 w1 h1 (by omega))
  rw [refR_eq] at HUR
  simp only [← Hdd.out] at HUN HUR
  have HS0 := hide (fun w => run_str_bytes (P := Tryd.prog) w (src := 9) (dst := 38) b.1 Tryd.underlying9 Tryd.underlying38 Tryd.underlying5)
  have HRows := hide hr
  have hra := hide hr.arr
  rw [← Har.out] at hra
  clear ha hb hc hs hw hr _hwb _hk _hwr
  go_enter Tryd.func15, Tryd.ntmps15
  go_wp2_with fail
  refine (awake_any _).mono ?_
  rintro e w1 ⟨rfl, x1⟩; have X1 := hide x1; have Z1 := hide x1.size; clear x1
  go_wp2_with fail
  refine (HCR.out A c _ (Ha.out.ext X1.out)).mono ?_
  intro e w2 h2
  obtain ⟨A2, c2, rfl, i2, x2⟩ := h2.made
  have X2 := hide (X1.out.trans x2); have Z2 := hide x2.size; have S2 := hide (All.cons i2 (All.nil _)); clear i2 x2
  go_wp2_with fail
  refine (HCA.out C e' _ (Hc.out.ext RRow.stab X2.out)).mono ?_
  intro e w3 h2
  obtain ⟨A3, c3, rfl, i3, x3⟩ := h2.madeIn
  have X3 := hide (X2.out.trans x3); have Z3 := hide x3.size; have S3 := hide (All.cons i3 (All.ext x3 S2.out)); clear i3 x3 S2
  go_wp2_with fail
  refine (HIN.out _ X3.out).mono ?_
  intro e w4 h2
  obtain ⟨A4, c4, rfl, i4, x4⟩ := h2.nums
  have X4 := hide (X3.out.trans x4); have Z4 := hide x4.size; have S4 := hide (All.ext x4 S3.out); have N4 := hide i4; clear i4 x4 S3
  go_wp2_with fail
  refine (HPR.out A2 c2 A4 c4 _ (RowAt.own S4.out.2.1.here.1) N4.out).mono ?_
  intro e w5 h2
  obtain ⟨A5, c5, rfl, i5, x5⟩ := h2.made
  have X5 := hide (X4.out.trans x5); have Z5 := hide x5.size; have S5 := hide (All.cons i5 (All.ext x5 S4.out)); clear N4 i5 x5 S4
  go_wp2_with fail
  refine (HIN.out _ X5.out).mono ?_
  intro e w6 h2
  obtain ⟨A6, c6, rfl, i6, x6⟩ := h2.nums
  have X6 := hide (X5.out.trans x6); have Z6 := hide x6.size; have S6 := hide (All.ext x6 S5.out); have N6 := hide i6; clear i6 x6 S5
  go_wp2_with fail
  refine (HPR.out A2 c2 A6 c6 _ (RowAt.own S6.out.2.2.1.here.1) N6.out).mono ?_
  intro e w7 h2
  obtain ⟨A7, c7, rfl, i7, x7⟩ := h2.made
  have X7 := hide (X6.out.trans x7); have Z7 := hide x7.size; have S7 := hide (All.cons i7 (All.ext x7 S6.out)); clear N6 i7 x7 S6
  go_wp2_with fail
  refine (HPK.out A2 c2 _ (RowAt.own S7.out.2.2.2.1.here.1)).mono ?_
  intro e w8 h2
  obtain ⟨A8, c8, rfl, i8, x8⟩ := h2.made
  have X8 := hide (X7.out.trans x8); have Z8 := hide x8.size; have S8 := hide (All.cons i8 (All.ext x8 S7.out)); clear i8 x8 S7
  go_wp2_with fail
  refine (HPK.out A2 c2 _ (RowAt.own S8.out.2.2.2.2.1.here.1)).mono ?_
  intro e w9 h2
  obtain ⟨A9, c9, rfl, i9, x9⟩ := h2.made
  have X9 := hide (X8.out.trans x9); have Z9 := hide x9.size; have S9 := hide (All.cons i9 (All.ext x9 S8.out)); clear i9 x9 S8
  go_wp2_with fail
  refine (HAR.out A3 c3 _ (RowsOwn.lat S9.out.2.2.2.2.1.here)).mono ?_
  intro e w10 h2
  obtain ⟨A10, c10, rfl, i10, x10⟩ := h2.madeIn
  have X10 := hide (X9.out.trans x10); have Z10 := hide x10.size; have S10 := hide (All.cons i10 (All.ext x10 S9.out)); clear i10 x10 S9
  go_wp2_with fail
  refine (HAR.out A3 c3 _ (RowsOwn.lat S10.out.2.2.2.2.2.1.here)).mono ?_
  intro e w11 h2
  obtain ⟨A11, c11, rfl, i11, x11⟩ := h2.madeIn
  have X11 := hide (X10.out.trans x11); have Z11 := hide x11.size; have S11 := hide (All.cons i11 (All.ext x11 S10.out)); clear i11 x11 S10
  have HK := hide (fun w1 (h1 : Ext w11 w1) => copy_any p.1 A7 p.1.length c7 w1 (RowAt.own (All.ext h1 S11.out).2.2.2.2.1.here.1) (by omega))
  have HA2 := hide (fun w1 (h1 : Ext w11 w1) => copy_all a A11 a.length c11 w1 (RowsOwn.lat (All.ext h1 S11.out).1.here) (by omega) (fun x h => by have := (hra.out x h).1; omega))
  have HB2 := hide (fun w1 (h1 : Ext w11 w1) => run_bytes_str (c := c9) (src := 38) (dst := 9) Tryd.underlying38 Tryd.underlying5 Tryd.underlying9 (Sl.own (All.ext h1 S11.out).2.2.1.here.1))
  go_wp2_with fail
  refine wp_region_ext 9 (by kernel_rfl) (by kernel_rfl) (by kernel_rfl) ?_
  iterate 1
    refine wpE_k (by kernel_rfl) (by kernel_rfl) ?_
    apply Exists.intro
    refine ⟨fun w1 hw1 => ?_, fun K hK => ?_⟩
    · go_simp; first | done | rfl
    go_simp; refine hK _ _ ?_; clear hK K
  refine wpE_p [] (fun u w1 => ∃ A2 c2, u = .slice A2 p.1.length c2 ∧ In w11.heap.size w1.heap.size (Own w11.heap.size w1.heap.size 54 3 (.slice A2 p.1.length c2) p.1.length (cellsR p.1)) w1) (fun u w1 w2 _ h2 ⟨A2, c2, h3, h4⟩ => ⟨A2, c2, h3, In.own (h4.ext h2).here.1⟩) rfl (by kernel_rfl) (fun w1 hw1 => ?_) ?_
  · simp only [LookQ]
    go_simp
    refine ⟨Ext.refl _, (HK.out w1 hw1).mono fun e w' hR => ?_⟩
    obtain ⟨A, c, he, ho, hE⟩ := hR
    exact ⟨_, he, hE, A, c, rfl, In.own (mine_base ho hw1.size)⟩
  iterate 1
    refine wpE_k (by kernel_rfl) (by kernel_rfl) ?_
    apply Exists.intro
    refine ⟨fun w1 hw1 => ?_, fun K hK => ?_⟩
    · go_simp; first | done | rfl
    go_simp; refine hK _ _ ?_; clear hK K
  refine wpE_k (by kernel_rfl) (by kernel_rfl) ?_
  apply Exists.intro
  refine ⟨fun w1 hw1 => ?_, fun K hK => ?_⟩
  · show kUpon _ _ _ _
    rw [exec_convg rfl (HB2.out w1 hw1)]
    exact ⟨rfl, rfl⟩
  go_simp; refine hK _ _ ?_; clear hK K
  iterate 1
    refine wpE_k (by kernel_rfl) (by kernel_rfl) ?_
    apply Exists.intro
    refine ⟨fun w1 hw1 => ?_, fun K hK => ?_⟩
    · go_simp; first | done | rfl
    go_simp; refine hK _ _ ?_; clear hK K
  refine wpE_p [] (PR w11.heap.size a) (fun u w1 w2 _ h2 h => h.ext h2) rfl (by kernel_rfl) (fun w1 hw1 => ?_) ?_
  · simp only [LookQ]
    go_simp
    exact ⟨Ext.refl _, (HA2.out w1 hw1).mono fun e w' hR => hR.pr hw1⟩
  refine wpE_p [74] (fun u w1 => ∃ A2 c2, u = .slice A2 p.1.length c2 ∧ In w11.heap.size w1.heap.size (Own w11.heap.size w1.heap.size 54 3 (.slice A2 p.1.length c2) p.1.length (cellsR p.1)) w1) (fun u w1 w2 _ h2 ⟨A2, c2, h3, h4⟩ => ⟨A2, c2, h3, In.own (h4.ext h2).here.1⟩) rfl (by kernel_rfl) (fun w1 hw1 => ?_) ?_
  · simp only [LookQ]
    intro u hu
    have hu := hu _ rfl
    go_simp
    exact ⟨Ext.refl _, hu⟩
  iterate 1
    refine wpE_k (by kernel_rfl) (by kernel_rfl) ?_
    apply Exists.intro
    refine ⟨fun w1 hw1 => ?_, fun K hK => ?_⟩
    · go_simp; first | done | rfl
    go_simp; refine hK _ _ ?_; clear hK K
  refine wpE_p [78] (PR w11.heap.size a) (fun u w1 w2 _ h2 h => h.ext h2) rfl (by kernel_rfl) (fun w1 hw1 => ?_) ?_
  · simp only [LookQ]
    intro u hu
    have hu := hu _ rfl
    go_simp
    exact ⟨Ext.refl _, hu⟩
  refine wpE_nil ⟨rfl, by kernel_rfl, fun wq hwq => ?_⟩
  simp only [EndQ]
  rintro _ ⟨A21, c21, cells21, rfl, ho21, he21⟩ _ ⟨A19, c19, rfl, i19⟩ u78 _ u74 _
  simp only [List.drop]
  have XQ := hide (X11.out.trans hwq); have ZQ := hide hwq.size
  have SQ := hide (All.cons i19 (All.cons (In.rowsOwn (c := c21) rfl ho21 he21) (All.ext hwq S11.out)))
  clear i19 ho21 he21 hwq HK HA2 HB2 S11
  have ZZ : Hid (w.heap.size ≤ w1.heap.size ∧ w1.heap.size ≤ w2.heap.size ∧ w2.heap.size ≤ w3.heap.size ∧ w3.heap.size ≤ w4.heap.size ∧ w4.heap.size ≤ w5.heap.size ∧ w5.heap.size ≤ w6.heap.size ∧ w6.heap.size ≤ w7.heap.size ∧ w7.heap.size ≤ w8.heap.size ∧ w8.heap.size ≤ w9.heap.size ∧ w9.heap.size ≤ w10.heap.size ∧ w10.heap.size ≤ w11.heap.size ∧ w11.heap.size ≤ wq.heap.size) :=
    ⟨Z1.out, Z2.out, Z3.out, Z4.out, Z5.out, Z6.out, Z7.out, Z8.out, Z9.out, Z10.out, Z11.out, ZQ.out⟩
  clear Z1 Z2 Z3 Z4 Z5 Z6 Z7 Z8 Z9 Z10 Z11 ZQ X1 X2 X3 X4 X5 X6 X7 X8 X9 X10 X11
  have SR := All.erase 7 SQ.out
  simp only [List.eraseIdx] at SR
  have SR := hide SR
  have HP1 := hide SQ.out.2.2.2.2.2.2.2.1.here
  clear SQ
  go_wp2_with fail
  go_loopw [22] (fun k w' => ∃ i : Nat, i ≤ p.1.length ∧ k = .int .i64 i ∧ Hid (Wr w4.heap.size w5.heap.size wq w') ∧ Hid (∃ xs, w'.ownsRow w4.heap.size 54 3 (.slice A5 p.1.length c5) p.1.length xs)) (fun k _ => p.1.length - (intOf k).toNat)
  case atStart => exact ⟨0, by omega, rfl, Wr.refl _ _ _, _, HP1.out.1⟩
  case round =>
    obtain ⟨i, hin, rfl, hx, ho⟩ := hrel
    by_cases h : i < p.1.length
    · go_wp2_with fail
      refine (mark_any i (by omega) _).mono ?_
      rintro e y1 ⟨rfl, k1⟩
      obtain ⟨xs, ho1⟩ := ho.out
      have ho2 := own_ext ho1 k1
      have hx2 := hide (hx.out.ext k1)
      obtain ⟨g, u0, u1, u2, hA, hg0, hgb, q0, q1, q2, f0, f1, f2⟩ := own_cell3 ho2 h
      have hg1 := hide (HP1.out.2 g hgb)
      subst hA
      have ho3 := hide ho2
      clear hgb ho1 ho2 k1
      go_wp2_with fail
      go_roundw
      case rel => exact ⟨i + 1, by omega, by go_num, hx2.out.set3 hg0 hg1.out _ _ _ _ _ _, own_set3 ho3.out _ _ _ _ _ _⟩
      case measure => simp [intOf]; omega
    · have SR1 := hide (All.wr hx.out SR.out (by obtain ⟨z0, z1, z2, z3, z4, z5, z6, z7, z8, z9, z10, z11⟩ := ZZ.out; simp only [Free]; clear hp1 hp2 hp3 hin; refine ⟨?_, ?_, ?_, ?_, ?_, ?_, ?_, ?_, ?_, trivial⟩ <;> omega))
      have XR1 := hide (hx.out.out XQ.out (by have h0 := ZZ.out; omega))
      have HB1 := hide SR1.out.2.2.2.2.2.1.here
      have SB1 := All.erase 5 SR1.out
      simp only [List.eraseIdx] at SB1
      have SB1 := hide SB1
      have WS := hide hx.out.size
      clear SR SR1 hx ho
      have hin' : i = p.1.length := by omega
      subst hin'
      clear h hin
      go_wp2_with fail
      go_loopw [23] (fun k w' => ∃ i : Nat, i ≤ b.1.length ∧ k = .int .i64 i ∧ Hid (Wr w7.heap.size w8.heap.size wr w') ∧ Hid (∃ xs, w'.ownsRow w7.heap.size 5 1 (.slice A8 b.1.length c8) b.1.length xs ∧ xs.drop i = (bcells b.1).drop i)) (fun k _ => b.1.length - (intOf k).toNat)
      case atStart => exact ⟨0, by omega, rfl, Wr.refl _ _ _, _, HB1.out.1, rfl⟩
      case round =>
        obtain ⟨i, hin, rfl, hx, ho⟩ := hrel
        by_cases h : i < b.1.length
        · obtain ⟨xs, ho1, hd⟩ := ho.out
          obtain ⟨z, hz⟩ : ∃ z : UInt8, (bcells b.1)[i]? = some (.int .u8 (z.toNat : Int)) := ⟨b.1[i], by simp [bcells, List.getElem?_eq_getElem h]⟩
          have hz' := (drop_head hd).trans hz
          obtain ⟨g, hA, hg0, hgb, q0, f0⟩ := own_cell1 ho1 h hz'
          have hg1 := hide (HB1.out.2 g hgb)
          subst hA
          have ho2 := hide ho1
          have hd' := hide hd
          clear hgb ho1 hd hz hz'
          go_wp2_with fail
          go_roundw
          case rel => exact ⟨i + 1, by omega, by go_num, hx.out.setCell ⟨hg0, hg1.out⟩ _, _, own_set1 ho2.out i _, drop_set_next hd'.out _⟩
          case measure => simp [intOf]; omega
        · have SR2 := hide (All.wr hx.out SB1.out (by obtain ⟨z0, z1, z2, z3, z4, z5, z6, z7, z8, z9, z10, z11⟩ := ZZ.out; simp only [Free]; clear hp1 hp2 hp3 hin; refine ⟨?_, ?_, ?_, ?_, ?_, ?_, ?_, ?_, trivial⟩ <;> omega))
          have XR2 := hide (hx.out.out XR1.out (by have h0 := ZZ.out; omega))
          have HA1 := hide SR2.out.2.2.2.1.here
          have SB2 := All.erase 3 SR2.out
          simp only [List.eraseIdx] at SB2
          have SB2 := hide SB2
          have WS := hide (Nat.le_trans WS.out hx.out.size)
          clear SB1 SR2 hx ho XR1
          have hin' : i = b.1.length := by omega
          subst hin'
          clear h hin
          have HRW := hide (HA1.out.writable (fun x hx => (hra.out x hx).1))
          go_wp2_with fail
          go_loopw [24] (fun k w' => ∃ i : Nat, i ≤ a.length ∧ k = .int .i64 i ∧ Hid (Wr w9.heap.size w10.heap.size wr w') ∧ Hid (∃ cells, RowsW w9.heap.size w10.heap.size A10 a.length c10 cells w')) (fun k _ => a.length - (intOf k).toNat)
          case atStart => exact ⟨0, by omega, rfl, Wr.refl _ _ _, HRW.out⟩
          case round =>
            obtain ⟨i, hin, rfl, hx, ho⟩ := hrel
            by_cases h : i < a.length
            · obtain ⟨cells, ho1⟩ := ho.out
              obtain ⟨g, B9, n9, d9, xs, hA, hg0, hg1, hci, q0, f0, h9, ho9⟩ := ho1.get h
              subst hA
              have HO1 := hide ho1; have HO9 := hide ho9; have HCI := hide hci
              clear ho1 ho9 ho hci q0 f0
              go_wp2_with fail
              go_loopw [25] (fun k w' => ∃ j : Nat, j ≤ n9 ∧ k = .int .i64 j ∧ Hid (Wr w9.heap.size w10.heap.size wr w') ∧ Hid (RowsW w9.heap.size w10.heap.size (some ⟨g, 0, none⟩) a.length c10 cells w' ∧ ∃ xs, Own w9.heap.size w10.heap.size 54 3 (.slice B9 n9 d9) n9 xs w')) (fun k _ => n9 - (intOf k).toNat)
              case atStart => exact ⟨0, by omega, rfl, Wr.refl _ _ _, HO1.out, xs, HO9.out⟩
              case round =>
                obtain ⟨j, hjn, rfl, hy, hz⟩ := hrel
                obtain ⟨hz1, ys, hz2⟩ := hz.out
                obtain ⟨g', hg', _, _, q0, f0⟩ := own_cell1 hz1.1.1 h HCI.out
                injection hg' with hg'; injection hg' with hg'
                subst hg'
                have HZ1 := hide hz1; have HZ2 := hide hz2
                clear hz1 hz2
                by_cases hj : j < n9
                · obtain ⟨g9, u0, u1, u2, hA9, hb0, hgb, -⟩ := own_cell3 HZ2.out.1 hj
                  have hb1 := hide (HZ2.out.2 g9 hgb)
                  subst hA9
                  have hij : (0 : Int) ≤ 100 + (i : Int) := by omega
                  have hwr : IntKind.i64.wrap (100 + (i : Int)) = 100 + (i : Int) := IntWalk.i64_in _ (by omega)
                  have HM := hide (fun w1 => mark_any (100 + (i : Int)) ⟨by omega, by omega⟩ w1)
                  rw [← hwr] at HM
                  clear hwr
                  go_wp2_with fail
                  have q0 := cell_ext q0
                  refine wp_region_ext 9 (by kernel_rfl) (by kernel_rfl) (by kernel_rfl) ?_
                  iterate 7
                    refine wpE_k (by kernel_rfl) (by kernel_rfl) ?_
                    apply Exists.intro
                    refine ⟨fun w1 hw1 => ?_, fun K hK => ?_⟩
                    · go_simp; first | done | rfl
                    go_simp; refine hK _ _ ?_; clear hK K
                  iterate 1
                    refine wpE_k (by kernel_rfl) (by kernel_rfl) ?_
                    apply Exists.intro
                    refine ⟨fun w1 hw1 => ?_, fun K hK => ?_⟩
                    · go_simp; first | done | rfl | exact HM.out w1
                    go_simp; refine hK _ _ ?_; clear hK K
                  iterate 1
                    refine wpE_k (by kernel_rfl) (by kernel_rfl) ?_
                    apply Exists.intro
                    refine ⟨fun w1 hw1 => ?_, fun K hK => ?_⟩
                    · go_simp; first | done | rfl
                    go_simp; refine hK _ _ ?_; clear hK K
                  refine wpE_nil ⟨rfl, by kernel_rfl, fun wq2 hwq2 => ?_⟩
                  simp only [EndQ, List.drop]
                  have hy2 := hide (hy.out.ext hwq2)
                  have HZ12 := hide (HZ1.out.ext hwq2)
                  have ho2 := own_ext HZ2.out.1 hwq2
                  obtain ⟨g8, v0, v1, v2, hA8, _, _, q20, q21, q22, f20, f21, f22⟩ := own_cell3 ho2 hj
                  injection hA8 with hA8; injection hA8 with hA8
                  subst hA8
                  have ho3 := hide ho2
                  clear ho2 hwq2 q0 hgb
                  go_wp2_with fail
                  go_roundw
                  case rel => exact ⟨j + 1, by omega, by go_num, hy2.out.set3 hb0 hb1.out _ _ _ _ _ _, HZ12.out.row3 ho3.out rfl _ _ _ _ _ _, Own.set3 ⟨ho3.out, HZ2.out.2⟩ _ _ _ _ _ _⟩
                  case measure => simp [intOf]; omega
                · have hxy := hide (hx.out.trans hy.out)
                  clear hx hy
                  go_wp2_with fail
                  go_roundw
                  case rel => exact ⟨i + 1, by omega, by go_num, hxy.out.setCell (p := ⟨g, i, none⟩) ⟨hg0, hg1⟩ _, _, HZ1.out.drop i⟩
                  case measure => simp [intOf]; omega
            · have SR3 := hide (All.wr hx.out SB2.out (by obtain ⟨z0, z1, z2, z3, z4, z5, z6, z7, z8, z9, z10, z11⟩ := ZZ.out; simp only [Free]; clear hp1 hp2 hp3 hp4 hin; refine ⟨?_, ?_, ?_, ?_, ?_, ?_, ?_, trivial⟩ <;> omega))
              have XR3 := hide (hx.out.out XR2.out (by have h0 := ZZ.out; omega))
              have WS := hide (Nat.le_trans WS.out hx.out.size)
              have hin' : i = a.length := by omega
              subst hin'
              clear SB2 hx ho XR2 HA1 HRW h hin
              go_wp2_with fail
              refine (same_row (c := c2) (d := c) (RowAt.own SR3.out.2.2.2.2.2.2.1.here.1) (Ha.out.ext XR3.out) (by omega)).mono ?_
              rintro e y1 ⟨rfl, k1⟩
              have XY1 := hide (XR3.out.trans k1); have SY1 := hide (All.ext k1 SR3.out); have WY1 := hide (Nat.le_trans WS.out k1.size)
              clear SR3 XR3 WS k1
              go_wp2_with fail
              refine (same_self (c := c3) (d := e') (RowsOwn.lat SY1.out.2.2.2.2.2.1.here) (Hc.out.ext RRow.stab XY1.out) (by omega) HRows.out).mono ?_
              rintro e y2 ⟨rfl, k2⟩
              have XY2 := hide (XY1.out.trans k2); have SY2 := hide (All.ext k2 SY1.out); have WY2 := hide (Nat.le_trans WY1.out k2.size)
              clear SY1 XY1 WY1 k2
              have HIn := hide SY2.out.2.2.2.2.2.2.1.here
              have SI := All.erase 6 SY2.out
              simp only [List.eraseIdx] at SI
              have SI := hide SI
              clear SY2
              go_wp2_with fail
              go_loopw [27] (fun k w' => ∃ i : Nat, i ≤ r.length ∧ k = .int .i64 i ∧ Hid (Wr w1.heap.size w2.heap.size y2 w') ∧ Hid (∃ xs, w'.ownsRow w1.heap.size 54 3 (.slice A2 r.length c2) r.length xs)) (fun k _ => r.length - (intOf k).toNat)
              case atStart => exact ⟨0, by omega, rfl, Wr.refl _ _ _, _, HIn.out.1⟩
              case round =>
                obtain ⟨i, hin, rfl, hx, ho⟩ := hrel
                by_cases h : i < r.length
                · go_wp2_with fail
                  refine (mark_any i (by omega) _).mono ?_
                  rintro e y1 ⟨rfl, k1⟩
                  obtain ⟨xs, ho1⟩ := ho.out
                  have ho2 := own_ext ho1 k1
                  have hx2 := hide (hx.out.ext k1)
                  obtain ⟨g, u0, u1, u2, hA, hg0, hgb, q0, q1, q2, f0, f1, f2⟩ := own_cell3 ho2 h
                  have hg1 := hide (HIn.out.2 g hgb)
                  subst hA
                  have ho3 := hide ho2
                  clear hgb ho1 ho2 k1
                  go_wp2_with fail
                  go_roundw
                  case rel => exact ⟨i + 1, by omega, by go_num, hx2.out.set3 hg0 hg1.out _ _ _ _ _ _, own_set3 ho3.out _ _ _ _ _ _⟩
                  case measure => simp [intOf]; omega
                · have SJ := hide (All.wr hx.out SI.out (by obtain ⟨z0, z1, z2, z3, z4, z5, z6, z7, z8, z9, z10, z11⟩ := ZZ.out; simp only [Free]; clear hp1 hp2 hp3 hp4 hin; refine ⟨?_, ?_, ?_, ?_, ?_, ?_, trivial⟩ <;> omega))
                  have XJ := hide (hx.out.out XY2.out (by have h0 := ZZ.out; omega))
                  have WJ := hide (Nat.le_trans WY2.out hx.out.size)
                  have hin' : i = r.length := by omega
                  subst hin'
                  clear SI hx ho XY2 WY2 HIn h hin
                  have HAl := hide (SJ.out.2.2.2.2.2.1.here.writable (fun x hx => (HRows.out x hx).1))
                  have SK := All.erase 5 SJ.out
                  simp only [List.eraseIdx] at SK
                  have SK := hide SK
                  clear SJ
                  go_wp2_with fail
                  go_loopw [28] (fun k w' => ∃ i : Nat, i ≤ rows.length ∧ k = .int .i64 i ∧ Hid (Wr w2.heap.size w3.heap.size wr w') ∧ Hid (∃ cells, RowsW w2.heap.size w3.heap.size A3 rows.length c3 cells w')) (fun k _ => rows.length - (intOf k).toNat)
                  case atStart => exact ⟨0, by omega, rfl, Wr.refl _ _ _, HAl.out⟩
                  case round =>
                    obtain ⟨i, hin, rfl, hx, ho⟩ := hrel
                    by_cases h : i < rows.length
                    · obtain ⟨cells, ho1⟩ := ho.out
                      obtain ⟨g, B9, n9, d9, xs, hA, hg0, hg1, hci, q0, f0, h9, ho9⟩ := ho1.get h
                      subst hA
                      have HO1 := hide ho1; have HO9 := hide ho9; have HCI := hide hci
                      clear ho1 ho9 ho hci q0 f0
                      go_wp2_with fail
                      go_loopw [29] (fun k w' => ∃ j : Nat, j ≤ n9 ∧ k = .int .i64 j ∧ Hid (Wr w2.heap.size w3.heap.size wr w') ∧ Hid (RowsW w2.heap.size w3.heap.size (some ⟨g, 0, none⟩) rows.length c3 cells w' ∧ ∃ xs, Own w2.heap.size w3.heap.size 54 3 (.slice B9 n9 d9) n9 xs w')) (fun k _ => n9 - (intOf k).toNat)
                      case atStart => exact ⟨0, by omega, rfl, Wr.refl _ _ _, HO1.out, xs, HO9.out⟩
                      case round =>
                        obtain ⟨j, hjn, rfl, hy, hz⟩ := hrel
                        obtain ⟨hz1, ys, hz2⟩ := hz.out
                        obtain ⟨g', hg', _, _, q0, f0⟩ := own_cell1 hz1.1.1 h HCI.out
                        injection hg' with hg'; injection hg' with hg'
                        subst hg'
                        have HZ1 := hide hz1; have HZ2 := hide hz2
                        clear hz1 hz2
                        by_cases hj : j < n9
                        · obtain ⟨g9, u0, u1, u2, hA9, hb0, hgb, -⟩ := own_cell3 HZ2.out.1 hj
                          have hb1 := hide (HZ2.out.2 g9 hgb)
                          subst hA9
                          have HM := hide (fun w1 => mark_any (i : Int) ⟨by omega, by omega⟩ w1)
                          go_wp2_with fail
                          have q0 := cell_ext q0
                          refine wp_region_ext 8 (by kernel_rfl) (by kernel_rfl) (by kernel_rfl) ?_
                          iterate 6
                            refine wpE_k (by kernel_rfl) (by kernel_rfl) ?_
                            apply Exists.intro
                            refine ⟨fun w1 hw1 => ?_, fun K hK => ?_⟩
                            · go_simp; first | done | rfl
                            go_simp; refine hK _ _ ?_; clear hK K
                          iterate 1
                            refine wpE_k (by kernel_rfl) (by kernel_rfl) ?_
                            apply Exists.intro
                            refine ⟨fun w1 hw1 => ?_, fun K hK => ?_⟩
                            · go_simp; first | done | rfl | exact HM.out w1
                            go_simp; refine hK _ _ ?_; clear hK K
                          iterate 1
                            refine wpE_k (by kernel_rfl) (by kernel_rfl) ?_
                            apply Exists.intro
                            refine ⟨fun w1 hw1 => ?_, fun K hK => ?_⟩
                            · go_simp; first | done | rfl
                            go_simp; refine hK _ _ ?_; clear hK K
                          refine wpE_nil ⟨rfl, by kernel_rfl, fun wq2 hwq2 => ?_⟩
                          simp only [EndQ, List.drop]
                          have hy2 := hide (hy.out.ext hwq2)
                          have HZ12 := hide (HZ1.out.ext hwq2)
                          have ho2 := own_ext HZ2.out.1 hwq2
                          obtain ⟨g8, v0, v1, v2, hA8, _, _, q20, q21, q22, f20, f21, f22⟩ := own_cell3 ho2 hj
                          injection hA8 with hA8; injection hA8 with hA8
                          subst hA8
                          have ho3 := hide ho2
                          clear ho2 hwq2 q0 hgb
                          go_wp2_with fail
                          go_roundw
                          case rel => exact ⟨j + 1, by omega, by go_num, hy2.out.set3 hb0 hb1.out _ _ _ _ _ _, HZ12.out.row3 ho3.out rfl _ _ _ _ _ _, Own.set3 ⟨ho3.out, HZ2.out.2⟩ _ _ _ _ _ _⟩
                          case measure => simp [intOf]; omega
                        · have hxy := hide (hx.out.trans hy.out)
                          clear hx hy
                          go_wp2_with fail
                          go_roundw
                          case rel => exact ⟨i + 1, by omega, by go_num, hxy.out, _, HZ1.out⟩
                          case measure => simp [intOf]; omega
                    · have SL := hide (All.wr hx.out SK.out (by obtain ⟨z0, z1, z2, z3, z4, z5, z6, z7, z8, z9, z10, z11⟩ := ZZ.out; simp only [Free]; clear hp1 hp2 hp3 hp4 hin; refine ⟨?_, ?_, ?_, ?_, ?_, trivial⟩ <;> omega))
                      have XL := hide (hx.out.out XJ.out (by have h0 := ZZ.out; omega))
                      have WL := hide (Nat.le_trans WJ.out hx.out.size)
                      have hin' : i = rows.length := by omega
                      subst hin'
                      clear SK hx ho XJ WJ HAl h hin
                      go_wp2_with fail
                      refine (HCR.out A c _ (Ha.out.ext XL.out)).mono ?_
                      intro e y3 h2
                      obtain ⟨B3, d3, rfl, i3, x3⟩ := h2.made
                      have X3 := hide (XL.out.trans x3); have S3 := hide (All.ext x3 SL.out); have W3 := hide (Nat.le_trans WL.out x3.size); have R3 := hide (RowAt.own i3.here.1); clear i3 x3 XL SL WL
                      go_wp2_with fail
                      refine (HIN.out _ X3.out).mono ?_
                      intro e y4 h2
                      obtain ⟨B4, d4, rfl, i4, x4⟩ := h2.nums
                      have X4 := hide (X3.out.trans x4); have S4 := hide (All.ext x4 S3.out); have W4 := hide (Nat.le_trans W3.out x4.size); have R4 := hide (R3.out.ext x4); have N4 := hide i4; clear i4 x4 X3 S3 W3 R3
                      go_wp2_with fail
                      refine (HPR.out B3 d3 B4 d4 _ R4.out N4.out).mono ?_
                      intro e y5 h2
                      obtain ⟨B5, d5, rfl, i5, x5⟩ := h2.made
                      have X5 := hide (X4.out.trans x5); have S5 := hide (All.cons i5 (All.ext x5 S4.out)); have W5 := hide x5.size; clear i5 x5 X4 S4 R4 N4
                      obtain ⟨y6, d6, s1, s2, s3, s4⟩ := HS0.out y5
                      have SS1 := hide s1; have BT1 := hide s2; have CC1 := hide s3; have X6 := hide (X5.out.trans s4); have S6 := hide (All.ext s4 S5.out); have W6 := hide s4.size
                      clear s1 s2 s3 s4 X5 S5
                      go_wp2_with (((with_reducible refine at_conv ?_); refine wpList_valW rfl _ (exec_convW rfl SS1.out) ?_))
                      refine (HUN.out _ d6 _ BT1.out CC1.out).mono ?_
                      intro e y7 h2
                      obtain ⟨B7, d7, rfl, i7, x7⟩ := h2.made
                      have X7 := hide (X6.out.trans x7); have S7 := hide (All.cons i7 (All.ext x7 S6.out)); have W7 := hide x7.size
                      clear i7 x7 X6 S6 SS1 BT1 CC1
                      obtain ⟨y8, d8, s1, s2, s3, s4⟩ := HS0.out y7
                      have SS1 := hide s1; have BT1 := hide s2; have CC1 := hide s3; have X8 := hide (X7.out.trans s4); have S8 := hide (All.ext s4 S7.out); have W8 := hide s4.size
                      clear s1 s2 s3 s4 X7 S7
                      go_wp2_with (((with_reducible refine at_conv ?_); refine wpList_valW rfl _ (exec_convW rfl SS1.out) ?_))
                      refine (HUN.out _ d8 _ BT1.out CC1.out).mono ?_
                      intro e y9 h2
                      obtain ⟨B9, d9, rfl, i9, x9⟩ := h2.made
                      have X9 := hide (X8.out.trans x9); have S9 := hide (All.cons i9 (All.ext x9 S8.out)); have W9 := hide x9.size
                      clear i9 x9 X8 S8 SS1 BT1 CC1
                      have HU1 := hide S9.out.2.1.here
                      have SM := All.erase 1 S9.out
                      simp only [List.eraseIdx] at SM
                      have SM := hide SM
                      clear S9
                      go_wp2_with fail
                      go_loopw [36] (fun k w' => ∃ i : Nat, i ≤ dd.1.length ∧ k = .int .i64 i ∧ Hid (Wr y6.heap.size y7.heap.size y9 w') ∧ Hid (∃ xs, w'.ownsRow y6.heap.size 54 3 (.slice B7 dd.1.length d7) dd.1.length xs)) (fun k _ => dd.1.length - (intOf k).toNat)
                      case atStart => exact ⟨0, by omega, rfl, Wr.refl _ _ _, _, HU1.out.1⟩
                      case round =>
                        obtain ⟨i, hin, rfl, hx, ho⟩ := hrel
                        by_cases h : i < dd.1.length
                        · go_wp2_with fail
                          refine (mark_any i (by omega) _).mono ?_
                          rintro e y1 ⟨rfl, k1⟩
                          obtain ⟨xs, ho1⟩ := ho.out
                          have ho2 := own_ext ho1 k1
                          have hx2 := hide (hx.out.ext k1)
                          obtain ⟨g, u0, u1, u2, hA, hg0, hgb, q0, q1, q2, f0, f1, f2⟩ := own_cell3 ho2 h
                          have hg1 := hide (HU1.out.2 g hgb)
                          subst hA
                          have ho3 := hide ho2
                          clear hgb ho1 ho2 k1
                          go_wp2_with fail
                          go_roundw
                          case rel => exact ⟨i + 1, by omega, by go_num, hx2.out.set3 hg0 hg1.out _ _ _ _ _ _, own_set3 ho3.out _ _ _ _ _ _⟩
                          case measure => simp [intOf]; omega
                        · have SN := hide (All.wr hx.out SM.out (by obtain ⟨z0, z1, z2, z3, z4, z5, z6, z7, z8, z9, z10, z11⟩ := ZZ.out; have a4 := W4.out; have a5 := W5.out; have a6 := W6.out; have a7 := W7.out; have a8 := W8.out; have a9 := W9.out; simp only [Free]; clear hp1 hp2 hp3 hp4 hin; refine ⟨?_, ?_, ?_, ?_, ?_, ?_, ?_, trivial⟩ <;> omega))
                          have XN := hide (hx.out.out X9.out (by have h0 := ZZ.out; have a4 := W4.out; have a5 := W5.out; have a6 := W6.out; omega))
                          have hin' : i = dd.1.length := by omega
                          subst hin'
                          clear SM hx ho X9 HU1 h hin W4 W5 W6 W7 W8 W9
                          obtain ⟨yA, dA, s1, s2, s3, s4⟩ := HS0.out wr
                          have SS1 := hide s1; have BT1 := hide s2; have XA := hide (XN.out.trans s4); have SA := hide (All.ext s4 SN.out)
                          clear s1 s2 s3 s4 XN SN
                          go_wp2_with (((with_reducible refine at_conv ?_); refine wpList_valW rfl _ (exec_convW rfl SS1.out) ?_))
                          refine (HUR.out _ dA _ BT1.out).mono ?_
                          intro e yB h2
                          obtain ⟨BB, dB, rfl, iB, xB⟩ := h2.row
                          have XB := hide (XA.out.trans xB); have SB := hide (All.ext xB SA.out); have RB := hide iB
                          clear iB xB XA SA SS1 BT1
                          go_wp2_with fail
                          refine (same_row (RowAt.own SB.out.2.2.2.2.2.2.1.here.1) (RowAt.own SB.out.2.2.1.here.1) (by omega)).mono ?_
                          rintro e yC ⟨rfl, k1⟩
                          have XC := hide (XB.out.trans k1); have SC := hide (All.ext k1 SB.out); have RC := hide (RB.out.ext k1)
                          clear k1 XB SB RB
                          have HBF := hide (run_bytes_str (c := c9) (src := 38) (dst := 9) Tryd.underlying38 Tryd.underlying5 Tryd.underlying9 (Sl.own SC.out.2.2.2.2.2.1.here.1))
                          go_wp2_with (((with_reducible refine at_conv ?_); refine wpList_valw (by rfl) _ (exec_convg rfl HBF.out) ?_))
                          refine (same_self (RowsOwn.lat SC.out.2.2.2.2.1.here) (RowsOwn.lat SC.out.2.2.2.1.here) (by omega) hra.out).mono ?_
                          rintro e yD ⟨rfl, k1⟩
                          have XD := hide (XC.out.trans k1); have SD := hide (All.ext k1 SC.out); have RD := hide (RC.out.ext k1)
                          clear k1 XC SC RC HBF
                          go_wp2_with fail
                          refine (same_row (RowAt.own SD.out.2.1.here.1) (RowAt.own SD.out.2.2.1.here.1) (by omega)).mono ?_
                          rintro e yE ⟨rfl, k1⟩
                          have XE := hide (XD.out.trans k1); have SE := hide (All.ext k1 SD.out); have RE := hide (RD.out.ext k1)
                          clear k1 XD SD RD
                          go_wp2_with fail
                          refine (same_row (RowAt.own SE.out.1.here.1) RE.out (by omega)).mono ?_
                          rintro e yF ⟨rfl, k1⟩
                          have XF := hide (XE.out.trans k1)
                          clear k1 XE SE RE
                          go_wp2_with fail
                          go_ret
                          exact ⟨rfl, XF.out⟩
end Go.Proofs.YtoahckibhmoikaaDoor
