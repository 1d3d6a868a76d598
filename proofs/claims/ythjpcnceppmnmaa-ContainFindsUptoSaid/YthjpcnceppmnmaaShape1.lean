/-
  Parts of a query's shape: names, terms, doubled variables.
-/
import Derived.Test.YthjpcnceppmnmaaIdx
namespace Go.Proofs.Ythjpcnceppmnmaa
open Go.RowKit

theorem eqB_dec (x y : ByteArray) : decide (x = y) = eqB x y := by
  unfold eqB
  by_cases h : x = y
  · simp [h]
  · have : y ≠ x := fun e => h e.symm
    simp [h, this]
theorem bytes_toList (a b : ByteArray) : a.toList = b.toList ↔ a = b :=
  ⟨fun h => by
    rw [ByteArray.toList_eq, ByteArray.toList_eq] at h
    obtain ⟨a⟩ := a; obtain ⟨b⟩ := b
    exact congrArg ByteArray.mk (Array.toList_inj.1 h), fun h => by rw [h]⟩
theorem LAt.str {w : World} {A : Option Addr} {n : Nat} {xs : List ByteArray} (h : LAt RS 1 w A n xs) {i : Nat} (hi : i < n) : ∃ b off x, A = some ⟨b, off, none⟩ ∧ xs[i]? = some x ∧ b < w.heap.size ∧ w.cell? ⟨b, off + i, none⟩ = some (.string x) := by
  obtain ⟨b, off, x, cs, rfl, hx, hb1, hcl, hone, rfl, hcell⟩ := h.get (by omega) hi
  have c0 := hcell 0 (by omega)
  simp only [Nat.mul_one, Nat.add_zero, List.getElem?_cons_zero] at c0
  exact ⟨b, off, x, rfl, hx, hb1, c0⟩
theorem LAt.tm {w : World} {A : Option Addr} {n : Nat} {xs : List Tm} (h : LAt RT 4 w A n xs) {i : Nat} (hi : i < n) : ∃ b off t, A = some ⟨b, off, none⟩ ∧ xs[i]? = some t ∧ b < w.heap.size ∧ w.cell? ⟨b, off + i * 4, none⟩ = some (.string t.v) ∧
    w.cell? ⟨b, off + i * 4 + 1, none⟩ = some (.int .i64 t.c.k) ∧ w.cell? ⟨b, off + i * 4 + 2, none⟩ = some (.int .i64 t.c.i) ∧ w.cell? ⟨b, off + i * 4 + 3, none⟩ = some (.string t.c.t) := by
  obtain ⟨b, off, x, cs, rfl, hx, hb1, hcl, hone, rfl, hcell⟩ := h.get (by omega) hi
  have c0 := hcell 0 (by omega)
  have c1 := hcell 1 (by omega)
  have c2 := hcell 2 (by omega)
  have c3 := hcell 3 (by omega)
  simp only [Tm.cells, Nat.add_zero, List.getElem?_cons_zero, List.getElem?_cons_succ] at c0 c1 c2 c3
  exact ⟨b, off, x, rfl, hx, hb1, c0, c1, c2, c3⟩
theorem LAt.at_ {w : World} {A : Option Addr} {n : Nat} {xs : List Atm} (h : LAt RA 2 w A n xs) {i : Nat} (hi : i < n) : ∃ b off a B m d, A = some ⟨b, off, none⟩ ∧ xs[i]? = some a ∧ b < w.heap.size ∧ w.cell? ⟨b, off + i * 2, none⟩ = some (.string a.rel) ∧
    w.cell? ⟨b, off + i * 2 + 1, none⟩ = some (.slice B m d) ∧ LAt RT 4 w B m a.terms := by
  obtain ⟨b, off, x, cs, rfl, hx, hb1, hcl, hone, ⟨B, m, d, rfl, hL⟩, hcell⟩ := h.get (by omega) hi
  have c0 := hcell 0 (by omega)
  have c1 := hcell 1 (by omega)
  simp only [Nat.add_zero, List.getElem?_cons_zero, List.getElem?_cons_succ] at c0 c1
  exact ⟨b, off, x, B, m, d, rfl, hx, hb1, c0, c1, hL⟩

set_option maxRecDepth 100000 in
theorem index_str (xs : List ByteArray) (x : ByteArray) (A : Option Addr) (n c : Nat) (w : World) (ha : LAt RS 1 w A n xs) (hn : n ≤ 1125899906842624) :
    Calls Try.prog 54 #[.slice A n c, .string x] w fun e w' => e = .returned (.int .i64 (firstI (eqB x) xs 0)) ∧ w = w' := by
  have Ha := hide ha; clear ha
  go_enter Try.func54, Try.ntmps54
  go_wp2
  go_loop [4, 5, 8] (fun _ _ k => ∃ i : Nat, i ≤ n ∧ k = .int .i64 i ∧ Hid (firstI (eqB x) xs 0 = firstI (eqB x) (xs.drop i) i)) (fun _ _ k => n - (intOf k).toNat)
  case atStart => exact ⟨0, by omega, rfl, rfl⟩
  case round =>
    obtain ⟨i, hin, rfl, ho⟩ := hrel
    by_cases h : i < n
    · obtain ⟨b, off, y, rfl, hx, hb1, c0⟩ := Ha.out.str h
      have hd := hide (firstI_drop (eqB x) xs i y hx); clear hx
      by_cases he : x = y
      · subst he
        have HE := hide (show eqB x x = true by simp [eqB])
        go_wp2_with fail
        go_ret
        exact ⟨ret_int (by rw [ho.out, hd.out, if_pos HE.out]), rfl⟩
      · have HE := hide (show eqB x y = false by rw [← eqB_dec]; simp [he])
        have he2 : (x.toList == y.toList) = false := by simpa using fun e => he ((bytes_toList x y).1 e)
        go_wp2_with fail
        go_round
        case rel => exact ⟨i + 1, by omega, by go_num, by rw [Hid, ho.out, hd.out, HE.out]; rfl⟩
        case measure => simp [intOf]; omega
    · go_wp2_with fail
      go_ret
      exact ⟨ret_int (by rw [ho.out, List.drop_of_length_le (by have := Ha.out.len; omega)]; rfl), rfl⟩

theorem contains_str (xs : List ByteArray) (x : ByteArray) (A : Option Addr) (n c : Nat) (w : World) (ha : LAt RS 1 w A n xs) (hn : n ≤ 1125899906842624) :
    Calls Try.prog 82 #[.slice A n c, .string x] w fun e w' => e = .returned (.bool (memB xs x)) ∧ w = w' := by
  have H := hide (index_str xs x A n c w ha hn); clear ha
  go_enter Try.func82, Try.ntmps82
  go_wp2_with fail
  refine H.out.mono ?_
  rintro e w1 ⟨rfl, rfl⟩
  go_wp2_with fail
  go_ret
  exact ⟨ret_bool (firstI_any (eqB x) xs 0), rfl⟩

theorem bad_name1 (x : ByteArray) (w : World) (hs : x.size ≤ 1048576) : Calls Try.prog 96 #[.string x] w fun e w' => e = .returned (.bool (!nameB x)) ∧ w = w' := by
  have H := hide (is_name x w hs)
  go_enter Try.func96, Try.ntmps96
  go_wp2_with fail
  refine H.out.mono ?_
  rintro e w1 ⟨rfl, rfl⟩
  go_wp2_with fail
  go_ret
  exact ⟨rfl, rfl⟩

theorem take_all {α : Type} (p : α → Bool) (xs : List α) (i : Nat) (x : α) (h : xs[i]? = some x) : (xs.take (i + 1)).all p = ((xs.take i).all p && p x) := by
  rw [List.take_add_one, h]; simp
theorem noVar_true {t : Tm} (h : t.v.size = 0) : noVar t = true := by simp [noVar, size_empty h]
theorem noVar_false {t : Tm} (h : 0 < t.v.size) : noVar t = false := by have := size_some h; simpa [noVar] using this

theorem nameA_split (a : Atm) (j : Nat) (t : Tm) (h : a.terms[j]? = some t) : (nameB a.rel && (a.terms.take (j + 1)).all nameT) = ((nameB a.rel && (a.terms.take j).all nameT) && nameT t) := by
  rw [take_all _ _ _ _ h, Bool.and_assoc]
theorem any_not {α : Type} (p : α → Bool) (xs : List α) : xs.any (fun x => !p x) = !xs.all p := by rw [Bool.eq_iff_iff]; simp
theorem take_zero_all {α : Type} (p : α → Bool) (xs : List α) : (xs.take 0).all p = true := by simp

set_option maxRecDepth 100000 in
theorem bad_name (q : Qy) (L : QLoc) (w : World) (hq : QAt w L q) (hM : smallM 1048576 q) :
    Calls Try.prog 72 #[qval q.name L] w fun e w' => e = .returned (.bool (badNameQ q)) ∧ Ext w w' := by
  obtain ⟨nm, hd, as_⟩ := q
  obtain ⟨A, n, c, B, m, d⟩ := L
  simp only [qval]
  have HQ := hide hq; have HM := hide hM
  have hm := hide (show m = as_.length from hq.atoms.len)
  have hml : m ≤ 1048576 := by have := hM.atomsL; have := hm.out; simp only at *; omega
  have hnl : n ≤ 1048576 := by have := hM.headL; have := hq.head.len; simp only at *; omega
  clear hq hM
  have HB := hide (fun w1 (h1 : Ext w w1) => contains_funcS hd (fun x => !nameB x) 96 #[] A n c w1 (HQ.out.head.ext RS.stab h1) hnl (enters_at Try.func96 (by kernel_rfl) rfl)
    (fun x v w2 hx _ hv => by obtain rfl := hv; exact sameCall (bad_name1 x w2 (HM.out.heads x hx))))
  have HN := hide (fun w1 => is_name nm w1 HM.out.name)
  have HBE := hide (Ext.alloc w (.cells #[.string nm, .slice A n c, .slice B m d] 25))
  have HC := hide (CellsAt.new w [.string nm, .slice A n c, .slice B m d] 25 (0, 0))
  generalize hbt : (fun i => !(nameB nm && hd.all nameB && (as_.take i).all nameA)) = bt
  have BT := hide (show ∀ i, bt i = !(nameB nm && hd.all nameB && (as_.take i).all nameA) from fun i => by rw [← hbt])
  clear hbt
  cases hb0 : nameB nm
  all_goals
    have Hb0 := hide hb0; clear hb0
    go_enter Try.func72, Try.ntmps72
    go_wp2_with ((refine (HN.out _).mono ?_); rintro e w1 ⟨rfl, rfl⟩; rw [Hb0.out])
  all_goals
    have E2 := hide (Ext.refl (w.alloc (.cells #[.string nm, .slice A n c, .slice B m d] 25)))
    try
      refine (HB.out _ HBE.out).mono ?_
      rintro e w1 ⟨rfl, h1⟩
      have E2 := hide h1
      have c2 := HC.out.ext h1 2 _ rfl
      clear h1
      go_wp2_with fail
      clear c2
    go_loopw [3, 5, 7, 20, 34] (fun b _ _ k _ w' => ∃ i : Nat, i ≤ m ∧ k = .int .i64 i ∧ b = .bool (bt i) ∧ Hid (Ext (w.alloc (.cells #[.string nm, .slice A n c, .slice B m d] 25)) w')) (fun _ _ _ k _ _ => m - (intOf k).toNat)
    case atStart => exact ⟨0, by omega, rfl, by rw [BT.out, Hb0.out]; first | rfl | (rw [any_not]; simp), E2.out⟩
    case round =>
      obtain ⟨i, hin, rfl, rfl, hw⟩ := hrel
      by_cases h : i < m
      · obtain ⟨b, off, a, B1, m1, d1, rfl, hx, hb1, c0, c1, hT⟩ := (HQ.out.atoms.ext RA.stab (HBE.out.trans hw.out)).at_ h
        have HT := hide hT
        have HSA := hide (HM.out.atoms a (List.mem_of_getElem? hx))
        have hm1 := hide (show m1 = a.terms.length from hT.len)
        have hm1l : m1 ≤ 1048576 := by have := HSA.out.len; have := hm1.out; omega
        have HNA := hide (fun w1 => is_name a.rel w1 HSA.out.rel)
        have HX := hide (show bt (i + 1) = (bt i || !(nameB a.rel && a.terms.all nameT)) by
          rw [BT.out, BT.out, take_all nameA as_ i a hx, nameA]
          cases nameB nm <;> cases hd.all nameB <;> cases (as_.take i).all nameA <;> simp)
        have HBE2 := hide (Ext.alloc wr (.cells #[.string a.rel, .slice B1 m1 d1] 43))
        generalize hct : (fun j => (bt i || !(nameB a.rel && (a.terms.take j).all nameT))) = ct
        have CT := hide (show ∀ j, ct j = (bt i || !(nameB a.rel && (a.terms.take j).all nameT)) from fun j => by rw [← hct])
        clear hct hx hT
        cases hbi : bt i
        case' true => have c_start : ct 0 = true := by rw [CT.out, hbi]; rfl
        case' false => have c_start : ct 0 = !nameB a.rel := by rw [CT.out, hbi]; simp
        all_goals
          have CS := hide c_start
          have Hbi := hide hbi; clear hbi c_start
          go_wp2_with ((refine (HNA.out _).mono ?_); rintro e w1 ⟨rfl, rfl⟩)
          clear c0 c1 hb1
          go_loopw [3, 7, 34] (fun b _ k w' => ∃ j : Nat, j ≤ m1 ∧ k = .int .i64 j ∧ b = .bool (ct j) ∧ Hid (Ext (wr.alloc (.cells #[.string a.rel, .slice B1 m1 d1] 43)) w')) (fun _ _ k _ => m1 - (intOf k).toNat)
          case atStart => exact ⟨0, by omega, rfl, by rw [CS.out], Ext.refl _⟩
          case round =>
            obtain ⟨j, hjn, rfl, rfl, hw2⟩ := hrel
            by_cases h2 : j < m1
            · obtain ⟨b2, off2, t, rfl, hx2, hb2, d0, d1_, d2, d3⟩ := (HT.out.ext RT.stab (HBE2.out.trans hw2.out)).tm h2
              have HNT := hide (fun w1 => is_name t.v w1 (HSA.out.terms t (List.mem_of_getElem? hx2)).1)
              have HY := hide (show ct (j + 1) = (ct j || !nameT t) by
                rw [CT.out, CT.out, nameA_split a j t hx2]
                cases bt i <;> cases (nameB a.rel && (a.terms.take j).all nameT) <;> simp)
              have HE3 := hide (hw2.out.trans (Ext.alloc wr (.cells #[.string t.v, .int .i64 t.c.k, .int .i64 t.c.i, .string t.c.t] 76)))
              clear hx2
              cases hcj : ct j
              case' true =>
                have c_next : ct (j + 1) = true := by rw [HY.out, hcj]; rfl
                have CN := hide c_next
                have Hcj := hide hcj; clear hcj c_next
                go_wp2_with fail
              case' false =>
                have HY2 := hide (show ct (j + 1) = !nameT t by rw [HY.out, hcj]; rfl)
                have Hcj := hide hcj; clear hcj
                by_cases hv : 0 < t.v.size
              case' neg =>
                have he := size_empty (s := t.v) (by omega)
                have CN := hide (show ct (j + 1) = false by rw [HY2.out, nameT, noVar_true (by omega)]; rfl)
                clear hv
                go_wp2_with fail
              case' pos =>
                have he := size_some hv
                have CN := hide (show ct (j + 1) = !nameB t.v by rw [HY2.out, nameT, noVar_false hv]; rfl)
                clear hv
                go_wp2_with ((refine (HNT.out _).mono ?_); rintro e w1 ⟨rfl, rfl⟩)
              all_goals
                go_roundw
                case rel => exact ⟨j + 1, by omega, by go_num, by rw [CN.out], HE3.out⟩
                case measure => simp [intOf]; omega
            · have HZ := hide (show ct j = bt (i + 1) by rw [CT.out, HX.out, List.take_of_length_le (by have := hm1.out; omega)])
              go_wp2_with fail
              go_roundw
              case rel => exact ⟨i + 1, by omega, by go_num, by rw [HZ.out], hw.out.trans (HBE2.out.trans hw2.out)⟩
              case measure => simp [intOf]; omega
      · go_wp2_with fail
        go_ret
        exact ⟨ret_bool (by rw [BT.out, List.take_of_length_le (by have := hm.out; omega)]; rfl), HBE.out.trans hw.out⟩
end Go.Proofs.Ythjpcnceppmnmaa
