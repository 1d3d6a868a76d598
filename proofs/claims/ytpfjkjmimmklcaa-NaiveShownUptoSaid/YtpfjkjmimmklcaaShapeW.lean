/-
  Parts of a query's shape: names, terms, doubled variables.
  Parts of a query's shape: terms; closures; doubled variables; variables.
  A list stays while another one of the call's own grows.
  A query's variables; its shape.
  The shape of a query: the program's.
-/
import Derived.Test.YtpfjkjmimmklcaaNames
namespace Go.Proofs.Ytpfjkjmimmklcaa
open Go.RowKit

theorem eqB_dec (x y : ByteArray) : decide (x = y) = eqB x y := by
  unfold eqB
  by_cases h : x = y
  · simp [h]
  · have : y ≠ x := fun e => h e.symm
    simp [h, this]
theorem bytes_toList (a b : ByteArray) : a.toList = b.toList ↔ a = b :=
  ⟨fun h => by
    rw [ByteArray.toList_eq, ByteArray.toList_eq] at h
    obtain ⟨a⟩ := a; obtain ⟨b⟩ := b
    exact congrArg ByteArray.mk (Array.toList_inj.1 h), fun h => by rw [h]⟩
theorem LAt.str {w : World} {A : Option Addr} {n : Nat} {xs : List ByteArray} (h : LAt RS 1 w A n xs) {i : Nat} (hi : i < n) : ∃ b off x, A = some ⟨b, off, none⟩ ∧ xs[i]? = some x ∧ b < w.heap.size ∧ w.cell? ⟨b, off + i, none⟩ = some (.string x) := by
  obtain ⟨b, off, x, cs, rfl, hx, hb1, hcl, hone, rfl, hcell⟩ := h.get (by omega) hi
  have c0 := hcell 0 (by omega)
  simp only [Nat.mul_one, Nat.add_zero, List.getElem?_cons_zero] at c0
  exact ⟨b, off, x, rfl, hx, hb1, c0⟩
theorem LAt.tm {w : World} {A : Option Addr} {n : Nat} {xs : List Tm} (h : LAt RT 4 w A n xs) {i : Nat} (hi : i < n) : ∃ b off t, A = some ⟨b, off, none⟩ ∧ xs[i]? = some t ∧ b < w.heap.size ∧ w.cell? ⟨b, off + i * 4, none⟩ = some (.string t.v) ∧
    w.cell? ⟨b, off + i * 4 + 1, none⟩ = some (.int .i64 t.c.k) ∧ w.cell? ⟨b, off + i * 4 + 2, none⟩ = some (.int .i64 t.c.i) ∧ w.cell? ⟨b, off + i * 4 + 3, none⟩ = some (.string t.c.t) := by
  obtain ⟨b, off, x, cs, rfl, hx, hb1, hcl, hone, rfl, hcell⟩ := h.get (by omega) hi
  have c0 := hcell 0 (by omega)
  have c1 := hcell 1 (by omega)
  have c2 := hcell 2 (by omega)
  have c3 := hcell 3 (by omega)
  simp only [Tm.cells, Nat.add_zero, List.getElem?_cons_zero, List.getElem?_cons_succ] at c0 c1 c2 c3
  exact ⟨b, off, x, rfl, hx, hb1, c0, c1, c2, c3⟩
theorem LAt.at_ {w : World} {A : Option Addr} {n : Nat} {xs : List Atm} (h : LAt RA 2 w A n xs) {i : Nat} (hi : i < n) : ∃ b off a B m d, A = some ⟨b, off, none⟩ ∧ xs[i]? = some a ∧ b < w.heap.size ∧ w.cell? ⟨b, off + i * 2, none⟩ = some (.string a.rel) ∧
    w.cell? ⟨b, off + i * 2 + 1, none⟩ = some (.slice B m d) ∧ LAt RT 4 w B m a.terms := by
  obtain ⟨b, off, x, cs, rfl, hx, hb1, hcl, hone, ⟨B, m, d, rfl, hL⟩, hcell⟩ := h.get (by omega) hi
  have c0 := hcell 0 (by omega)
  have c1 := hcell 1 (by omega)
  simp only [Nat.add_zero, List.getElem?_cons_zero, List.getElem?_cons_succ] at c0 c1
  exact ⟨b, off, x, B, m, d, rfl, hx, hb1, c0, c1, hL⟩

set_option maxRecDepth 100000 in
theorem index_str (xs : List ByteArray) (x : ByteArray) (A : Option Addr) (n c : Nat) (w : World) (ha : LAt RS 1 w A n xs) (hn : n ≤ 1125899906842624) :
    Calls Try.prog 63 #[.slice A n c, .string x] w fun e w' => e = .returned (.int .i64 (firstI (eqB x) xs 0)) ∧ w = w' := by
  have Ha := hide ha; clear ha
  go_enter Try.func63, Try.ntmps63
  go_wp2
  go_loop [4, 5, 8] (fun _ _ k => ∃ i : Nat, i ≤ n ∧ k = .int .i64 i ∧ Hid (firstI (eqB x) xs 0 = firstI (eqB x) (xs.drop i) i)) (fun _ _ k => n - (intOf k).toNat)
  case atStart => exact ⟨0, by omega, rfl, rfl⟩
  case round =>
    obtain ⟨i, hin, rfl, ho⟩ := hrel
    by_cases h : i < n
    · obtain ⟨b, off, y, rfl, hx, hb1, c0⟩ := Ha.out.str h
      have hd := hide (firstI_drop (eqB x) xs i y hx); clear hx
      by_cases he : x = y
      · subst he
        have HE := hide (show eqB x x = true by simp [eqB])
        go_wp2_with fail
        go_ret
        exact ⟨ret_int (by rw [ho.out, hd.out, if_pos HE.out]), rfl⟩
      · have HE := hide (show eqB x y = false by rw [← eqB_dec]; simp [he])
        have he2 : (x.toList == y.toList) = false := by simpa using fun e => he ((bytes_toList x y).1 e)
        go_wp2_with fail
        go_round
        case rel => exact ⟨i + 1, by omega, by go_num, by rw [Hid, ho.out, hd.out, HE.out]; rfl⟩
        case measure => simp [intOf]; omega
    · go_wp2_with fail
      go_ret
      exact ⟨ret_int (by rw [ho.out, List.drop_of_length_le (by have := Ha.out.len; omega)]; rfl), rfl⟩

theorem contains_str (xs : List ByteArray) (x : ByteArray) (A : Option Addr) (n c : Nat) (w : World) (ha : LAt RS 1 w A n xs) (hn : n ≤ 1125899906842624) :
    Calls Try.prog 95 #[.slice A n c, .string x] w fun e w' => e = .returned (.bool (memB xs x)) ∧ w = w' := by
  have H := hide (index_str xs x A n c w ha hn); clear ha
  go_enter Try.func95, Try.ntmps95
  go_wp2_with fail
  refine H.out.mono ?_
  rintro e w1 ⟨rfl, rfl⟩
  go_wp2_with fail
  go_ret
  exact ⟨ret_bool (firstI_any (eqB x) xs 0), rfl⟩

theorem bad_name1 (x : ByteArray) (w : World) (hs : x.size ≤ 1048576) : Calls Try.prog 102 #[.string x] w fun e w' => e = .returned (.bool (!nameB x)) ∧ w = w' := by
  have H := hide (is_name x w hs)
  go_enter Try.func102, Try.ntmps102
  go_wp2_with fail
  refine H.out.mono ?_
  rintro e w1 ⟨rfl, rfl⟩
  go_wp2_with fail
  go_ret
  exact ⟨rfl, rfl⟩

theorem take_all {α : Type} (p : α → Bool) (xs : List α) (i : Nat) (x : α) (h : xs[i]? = some x) : (xs.take (i + 1)).all p = ((xs.take i).all p && p x) := by
  rw [List.take_add_one, h]; simp
theorem noVar_true {t : Tm} (h : t.v.size = 0) : noVar t = true := by simp [noVar, size_empty h]
theorem noVar_false {t : Tm} (h : 0 < t.v.size) : noVar t = false := by have := size_some h; simpa [noVar] using this

theorem nameA_split (a : Atm) (j : Nat) (t : Tm) (h : a.terms[j]? = some t) : (nameB a.rel && (a.terms.take (j + 1)).all nameT) = ((nameB a.rel && (a.terms.take j).all nameT) && nameT t) := by
  rw [take_all _ _ _ _ h, Bool.and_assoc]
theorem any_not {α : Type} (p : α → Bool) (xs : List α) : xs.any (fun x => !p x) = !xs.all p := by rw [Bool.eq_iff_iff]; simp
theorem take_zero_all {α : Type} (p : α → Bool) (xs : List α) : (xs.take 0).all p = true := by simp

set_option maxRecDepth 100000 in
theorem bad_name (q : Qy) (L : QLoc) (w : World) (hq : QAt w L q) (hM : smallM 1048576 q) :
    Calls Try.prog 74 #[qval q.name L] w fun e w' => e = .returned (.bool (badNameQ q)) ∧ Ext w w' := by
  obtain ⟨nm, hd, as_⟩ := q
  obtain ⟨A, n, c, B, m, d⟩ := L
  simp only [qval]
  have HQ := hide hq; have HM := hide hM
  have hm := hide (show m = as_.length from hq.atoms.len)
  have hml : m ≤ 1048576 := by have := hM.atomsL; have := hm.out; simp only at *; omega
  have hnl : n ≤ 1048576 := by have := hM.headL; have := hq.head.len; simp only at *; omega
  clear hq hM
  have HB := hide (fun w1 (h1 : Ext w w1) => contains_funcS hd (fun x => !nameB x) 102 #[] A n c w1 (HQ.out.head.ext RS.stab h1) hnl (enters_at Try.func102 (by kernel_rfl) rfl)
    (fun x v w2 hx _ hv => by obtain rfl := hv; exact sameCall (bad_name1 x w2 (HM.out.heads x hx))))
  have HN := hide (fun w1 => is_name nm w1 HM.out.name)
  have HBE := hide (Ext.alloc w (.cells #[.string nm, .slice A n c, .slice B m d] 25))
  have HC := hide (CellsAt.new w [.string nm, .slice A n c, .slice B m d] 25 (0, 0))
  generalize hbt : (fun i => !(nameB nm && hd.all nameB && (as_.take i).all nameA)) = bt
  have BT := hide (show ∀ i, bt i = !(nameB nm && hd.all nameB && (as_.take i).all nameA) from fun i => by rw [← hbt])
  clear hbt
  cases hb0 : nameB nm
  all_goals
    have Hb0 := hide hb0; clear hb0
    go_enter Try.func74, Try.ntmps74
    go_wp2_with ((with_reducible refine (HN.out _).mono ?_); rintro e w1 ⟨rfl, rfl⟩; rw [Hb0.out])
  all_goals
    have E2 := hide (Ext.refl (w.alloc (.cells #[.string nm, .slice A n c, .slice B m d] 25)))
    try
      refine (HB.out _ HBE.out).mono ?_
      rintro e w1 ⟨rfl, h1⟩
      have E2 := hide h1
      have c2 := HC.out.ext h1 2 _ rfl
      clear h1
      go_wp2_with fail
      clear c2
    go_loopw [3, 5, 7, 20, 34] (fun b _ _ k _ w' => ∃ i : Nat, i ≤ m ∧ k = .int .i64 i ∧ b = .bool (bt i) ∧ Hid (Ext (w.alloc (.cells #[.string nm, .slice A n c, .slice B m d] 25)) w')) (fun _ _ _ k _ _ => m - (intOf k).toNat)
    case atStart => exact ⟨0, by omega, rfl, by rw [BT.out, Hb0.out]; first | rfl | (rw [any_not]; simp), E2.out⟩
    case round =>
      obtain ⟨i, hin, rfl, rfl, hw⟩ := hrel
      by_cases h : i < m
      · obtain ⟨b, off, a, B1, m1, d1, rfl, hx, hb1, c0, c1, hT⟩ := (HQ.out.atoms.ext RA.stab (HBE.out.trans hw.out)).at_ h
        have HT := hide hT
        have HSA := hide (HM.out.atoms a (List.mem_of_getElem? hx))
        have hm1 := hide (show m1 = a.terms.length from hT.len)
        have hm1l : m1 ≤ 1048576 := by have := HSA.out.len; have := hm1.out; omega
        have HNA := hide (fun w1 => is_name a.rel w1 HSA.out.rel)
        have HX := hide (show bt (i + 1) = (bt i || !(nameB a.rel && a.terms.all nameT)) by
          rw [BT.out, BT.out, take_all nameA as_ i a hx, nameA]
          cases nameB nm <;> cases hd.all nameB <;> cases (as_.take i).all nameA <;> simp)
        have HBE2 := hide (Ext.alloc wr (.cells #[.string a.rel, .slice B1 m1 d1] 40))
        generalize hct : (fun j => (bt i || !(nameB a.rel && (a.terms.take j).all nameT))) = ct
        have CT := hide (show ∀ j, ct j = (bt i || !(nameB a.rel && (a.terms.take j).all nameT)) from fun j => by rw [← hct])
        clear hct hx hT
        cases hbi : bt i
        case' true => have c_start : ct 0 = true := by rw [CT.out, hbi]; rfl
        case' false => have c_start : ct 0 = !nameB a.rel := by rw [CT.out, hbi]; simp
        all_goals
          have CS := hide c_start
          have Hbi := hide hbi; clear hbi c_start
          go_wp2_with ((with_reducible refine (HNA.out _).mono ?_); rintro e w1 ⟨rfl, rfl⟩)
          clear c0 c1 hb1
          go_loopw [3, 7, 34] (fun b _ k w' => ∃ j : Nat, j ≤ m1 ∧ k = .int .i64 j ∧ b = .bool (ct j) ∧ Hid (Ext (wr.alloc (.cells #[.string a.rel, .slice B1 m1 d1] 40)) w')) (fun _ _ k _ => m1 - (intOf k).toNat)
          case atStart => exact ⟨0, by omega, rfl, by rw [CS.out], Ext.refl _⟩
          case round =>
            obtain ⟨j, hjn, rfl, rfl, hw2⟩ := hrel
            by_cases h2 : j < m1
            · obtain ⟨b2, off2, t, rfl, hx2, hb2, d0, d1_, d2, d3⟩ := (HT.out.ext RT.stab (HBE2.out.trans hw2.out)).tm h2
              have HNT := hide (fun w1 => is_name t.v w1 (HSA.out.terms t (List.mem_of_getElem? hx2)).1)
              have HY := hide (show ct (j + 1) = (ct j || !nameT t) by
                rw [CT.out, CT.out, nameA_split a j t hx2]
                cases bt i <;> cases (nameB a.rel && (a.terms.take j).all nameT) <;> simp)
              have HE3 := hide (hw2.out.trans (Ext.alloc wr (.cells #[.string t.v, .int .i64 t.c.k, .int .i64 t.c.i, .string t.c.t] 60)))
              clear hx2
              cases hcj : ct j
              case' true =>
                have c_next : ct (j + 1) = true := by rw [HY.out, hcj]; rfl
                have CN := hide c_next
                have Hcj := hide hcj; clear hcj c_next
                go_wp2_with fail
              case' false =>
                have HY2 := hide (show ct (j + 1) = !nameT t by rw [HY.out, hcj]; rfl)
                have Hcj := hide hcj; clear hcj
                by_cases hv : 0 < t.v.size
              case' neg =>
                have he := size_empty (s := t.v) (by omega)
                have CN := hide (show ct (j + 1) = false by rw [HY2.out, nameT, noVar_true (by omega)]; rfl)
                clear hv
                go_wp2_with fail
              case' pos =>
                have he := size_some hv
                have CN := hide (show ct (j + 1) = !nameB t.v by rw [HY2.out, nameT, noVar_false hv]; rfl)
                clear hv
                go_wp2_with ((with_reducible refine (HNT.out _).mono ?_); rintro e w1 ⟨rfl, rfl⟩)
              all_goals
                go_roundw
                case rel => exact ⟨j + 1, by omega, by go_num, by rw [CN.out], HE3.out⟩
                case measure => simp [intOf]; omega
            · have HZ := hide (show ct j = bt (i + 1) by rw [CT.out, HX.out, List.take_of_length_le (by have := hm1.out; omega)])
              go_wp2_with fail
              go_roundw
              case rel => exact ⟨i + 1, by omega, by go_num, by rw [HZ.out], hw.out.trans (HBE2.out.trans hw2.out)⟩
              case measure => simp [intOf]; omega
      · go_wp2_with fail
        go_ret
        exact ⟨ret_bool (by rw [BT.out, List.take_of_length_le (by have := hm.out; omega)]; rfl), HBE.out.trans hw.out⟩
end Go.Proofs.Ytpfjkjmimmklcaa

namespace Go.Proofs.Ytpfjkjmimmklcaa
open Go.RowKit

theorem empty_iff (x : ByteArray) : x.toList = [] ↔ x = .empty := by
  have h0 : ([] : List UInt8) = ByteArray.empty.toList := by rw [ByteArray.toList_eq]; rfl
  rw [h0, bytes_toList]

set_option maxRecDepth 100000 in
theorem bad_term (t : Tm) (w : World) (hs : t.c.t.size ≤ 1048576) : Calls Try.prog 77 #[t.val] w fun e w' => e = .returned (.bool (badT t)) ∧ Ext w w' := by
  obtain ⟨v, k, i, x⟩ := t
  have HV := hide (fun w1 => val_valid ⟨k, i, x⟩ w1 hs)
  have HE := hide (Ext.alloc w (.cells #[.string v, .int .i64 k, .int .i64 i, .string x] 60))
  simp only [Tm.val, V.val] at *
  by_cases hv : 0 < v.size
  · have he := size_some hv
    have HB := hide (show badT ⟨v, k, i, x⟩ = !sameV ⟨k, i, x⟩ zeroV by rw [badT, noVar_false hv]; rfl)
    clear hv
    clear HV hs
    by_cases hk : k = 0
    · subst hk
      by_cases hi : i = 0
      · subst hi
        have hx2 := empty_iff x
        by_cases hx : x.toList = []
        · have HX := hide (hx2.1 hx); clear hx2
          go_enter Try.func77, Try.ntmps77
          go_wp2_with fail
          go_ret
          exact ⟨ret_bool (by rw [HB.out, HX.out]; rfl), HE.out⟩
        · have HX := hide (fun e => hx (hx2.2 e)); clear hx2
          go_enter Try.func77, Try.ntmps77
          go_wp2_with fail
          go_ret
          exact ⟨ret_bool (by rw [HB.out]; simp [sameV, zeroV]; exact decide_eq_false HX.out), HE.out⟩
      · go_enter Try.func77, Try.ntmps77
        go_wp2_with fail
        go_ret
        exact ⟨ret_bool (by rw [HB.out]; simp [sameV, zeroV, hi]), HE.out⟩
    · go_enter Try.func77, Try.ntmps77
      go_wp2_with fail
      go_ret
      exact ⟨ret_bool (by rw [HB.out]; simp [sameV, zeroV, hk]), HE.out⟩
  · have he := size_empty (s := v) (by omega)
    have HB := hide (show badT ⟨v, k, i, x⟩ = !validV ⟨k, i, x⟩ by rw [badT, noVar_true (by simp only; omega)]; rfl)
    clear hv
    go_enter Try.func77, Try.ntmps77
    go_wp2_with fail
    refine (HV.out _).mono ?_
    rintro e w1 ⟨rfl, h1⟩
    have E1 := hide (HE.out.trans h1); clear h1
    go_wp2_with fail
    go_ret
    exact ⟨ret_bool (by rw [HB.out]), E1.out⟩

/-- a query that is kept in a variable's block -/
theorem shape1 (q : Qy) (L : QLoc) (g : Nat) (f : FuncId) (p : Atm → Bool) (w : World) (hq : QAt w L q) (hm : L.m ≤ 1048576) (hc : CellsAt w g [.string q.name, .slice L.A L.n L.c, .slice L.B L.m L.d])
    (eg : ∀ args w, (callFunc f args).run Try.prog w = .ok (.enter f args) w)
    (hf : ∀ (x : Atm) (v : Value) (w1 : World), x ∈ q.atoms → Ext w w1 → VA w1 v x → Calls Try.prog f (#[v] ++ #[]) w1 fun e w2 => e = .returned (.bool (p x)) ∧ Ext w1 w2) :
    Calls Try.prog 72 #[.func (.func f) #[] #[], .pointer (some ⟨g, 0, none⟩)] w fun e w' => e = .returned (.bool (q.atoms.any p)) ∧ Ext w w' := by
  obtain ⟨nm, hd, as_⟩ := q
  obtain ⟨A, n, c, B, m, d⟩ := L
  have H := hide (contains_funcA as_ p f #[] B m d w hq.atoms hm eg hf)
  have c2 := hc 2 _ rfl
  clear hq hf hc eg
  go_enter Try.func72, Try.ntmps72
  go_wp2_with fail
  refine H.out.mono ?_
  rintro e w1 ⟨rfl, h1⟩
  have E1 := hide h1; clear h1 c2
  go_wp2_with fail
  go_ret
  exact ⟨rfl, E1.out⟩

theorem shape2 (a : Atm) (v : Value) (w : World) (hv : VA w v a) (hM : smallA 1048576 a) : Calls Try.prog 75 #[v] w fun e w' => e = .returned (.bool (badA a)) ∧ Ext w w' := by
  obtain ⟨A, n, c, rfl, hT⟩ := hv
  have hn : n ≤ 1048576 := by have := hT.len; have := hM.len; omega
  have H := hide (fun w1 (h1 : Ext w w1) => contains_funcT a.terms badT 77 #[] A n c w1 (hT.ext RT.stab h1) hn (enters_at Try.func77 (by kernel_rfl) rfl)
    (fun x v w2 hx _ hv => by subst hv; exact bad_term x w2 (hM.terms x hx).2.1))
  have HE := hide (Ext.alloc w (.cells #[.string a.rel, .slice A n c] 40))
  clear hM hT
  go_enter Try.func75, Try.ntmps75
  go_wp2_with fail
  refine (H.out _ HE.out).mono ?_
  rintro e w1 ⟨rfl, h1⟩
  have E1 := hide (HE.out.trans h1); clear h1
  go_wp2_with fail
  go_ret
  exact ⟨rfl, E1.out⟩

theorem shape3 (a : Atm) (v : Value) (w : World) (hv : VA w v a) : Calls Try.prog 78 #[v] w fun e w' => e = .returned (.bool (wideA a)) ∧ Ext w w' := by
  obtain ⟨A, n, c, rfl, hT⟩ := hv
  have hn := hide hT.len
  have HE := hide (Ext.alloc w (.cells #[.string a.rel, .slice A n c] 40))
  clear hT
  go_enter Try.func78, Try.ntmps78
  go_wp2_with fail
  all_goals
    go_ret
    exact ⟨ret_bool (by rw [wideA, ← hn.out, Bool.eq_iff_iff]; simp; omega), HE.out⟩

set_option maxRecDepth 100000 in
theorem doubled_any (xs : List ByteArray) (A : Option Addr) (n c : Nat) (w : World) (ha : LAt RS 1 w A n xs) (hn : n ≤ 1048576) (hc : n ≤ c) :
    Calls Try.prog 79 #[.slice A n c] w fun e w' => e = .returned (.int .i64 (dblI xs 0 xs)) ∧ w = w' := by
  have Ha := hide ha; clear ha
  go_enter Try.func79, Try.ntmps79
  go_wp2
  go_loop [3, 4, 7] (fun _ _ k => ∃ i : Nat, i ≤ n ∧ k = .int .i64 i ∧ Hid (dblI xs 0 xs = dblI xs i (xs.drop i))) (fun _ _ k => n - (intOf k).toNat)
  case atStart => exact ⟨0, by omega, rfl, rfl⟩
  case round =>
    obtain ⟨i, hin, rfl, ho⟩ := hrel
    by_cases h : i < n
    · obtain ⟨b, off, y, rfl, hx, hb1, c0⟩ := Ha.out.str h
      have hd := hide (dblI_drop hx); clear hx
      have HCon := hide (contains_str (xs.take i) y (some ⟨b, off, none⟩) i c w (Ha.out.take i hin) (by omega))
      cases hm : memB (xs.take i) y with
      | true =>
        have Hm := hide hm; clear hm
        go_wp2_with ((with_reducible refine HCon.out.mono ?_); rintro e w1 ⟨rfl, rfl⟩; rw [Hm.out])
        go_ret
        exact ⟨ret_int (by rw [ho.out, hd.out, if_pos Hm.out]), rfl⟩
      | false =>
        have Hm := hide hm; clear hm
        go_wp2_with ((with_reducible refine HCon.out.mono ?_); rintro e w1 ⟨rfl, rfl⟩; rw [Hm.out])
        go_round
        case rel => exact ⟨i + 1, by omega, by go_num, by rw [Hid, ho.out, hd.out, Hm.out]; rfl⟩
        case measure => simp [intOf]; omega
    · go_wp2_with fail
      go_ret
      exact ⟨ret_int (by rw [ho.out, List.drop_of_length_le (by have := Ha.out.len; omega)]; rfl), rfl⟩

theorem sl_lit (w : World) (cs : List Value) (t : TypeId) (n s : Nat) (h : cs.length = n * s) : Sl (w.alloc (.cells cs.toArray t)) (some ⟨w.heap.size, 0, none⟩) n s cs :=
  ⟨h, fun _ => ⟨w.heap.size, 0, rfl, fun j u hu => by rw [Nat.zero_add]; exact CellsAt.new w cs t (0, 0) j u hu⟩⟩
def strC (xs : List ByteArray) : List Value := xs.flatMap fun t => [.string t]
theorem strC_len (xs : List ByteArray) : (strC xs).length = xs.length := by induction xs <;> simp_all [strC]
theorem strC_els (w : World) (xs : List ByteArray) : Els RS 1 w (strC xs) xs := Els.flat (f := fun t => [.string t]) (fun _ => rfl) (fun x v h => by obtain rfl := List.mem_singleton.1 h; rfl) xs
theorem strC_snoc (xs : List ByteArray) (x : ByteArray) : strC (xs ++ [x]) = strC xs ++ [.string x] := by simp [strC]
theorem infoS : (Try.prog.info? 9).map (fun i => (i.zero, i.size, i.bytes)) = some (some (.string .empty), 1, 16) := by kernel_rfl
/-- texts of the call's own -/
def OwnS (w0 w : World) (A : Option Addr) (n c : Nat) (xs : List ByteArray) : Prop := n = xs.length ∧ w.ownsRow w0.heap.size 9 1 (.slice A n c) n (strC xs)
theorem OwnS.lat {w0 w : World} {A : Option Addr} {n c : Nat} {xs : List ByteArray} (h : OwnS w0 w A n c xs) : LAt RS 1 w A n xs := LAt.own h.1 (strC_els w xs) h.2
theorem OwnS.nil (w0 w : World) : OwnS w0 w none 0 0 [] := ⟨rfl, World.ownsRow_nil w _ _ _⟩
/-- texts of the call's own are handed back -/
def RetS (w0 : World) (xs : List ByteArray) (en : Ending) (w' : World) : Prop := ∃ A c, en = .returned (.slice A xs.length c) ∧ OwnS w0 w' A xs.length c xs ∧ Ext w0 w'

theorem addTs_snoc {ts : List Tm} {i : Nat} {t : Tm} (h : ts[i]? = some t) (acc : List ByteArray) : addTs acc (ts.take (i + 1)) = addT (addTs acc (ts.take i)) t := by
  rw [List.take_add_one, h]
  simp [addTs]
theorem addTs_len (acc : List ByteArray) : ∀ ts : List Tm, (addTs acc ts).length ≤ acc.length + ts.length
  | [] => by simp [addTs]
  | t :: ts => by
    have ih := addTs_len (addT acc t) ts
    have e : addTs acc (t :: ts) = addTs (addT acc t) ts := rfl
    have : (addT acc t).length ≤ acc.length + 1 := by
      unfold addT
      split
      · omega
      · split
        · omega
        · simp
    rw [e, List.length_cons]; omega

set_option maxRecDepth 100000 in
theorem atom_vars (a : Atm) (A : Option Addr) (n c : Nat) (w : World) (hT : LAt RT 4 w A n a.terms) (hn : n ≤ 1048576) :
    Calls Try.prog 87 #[.agg #[.string a.rel, .slice A n c]] w (RetS w (varsA a)) := by
  obtain ⟨i0, hi0, hz0, hz1, hz2⟩ := info_parts infoS
  have HT := hide hT; have HL := hide hT.len
  have HE := hide (Ext.alloc w (.cells #[.string a.rel, .slice A n c] 40))
  have HC := hide (CellsAt.new w [.string a.rel, .slice A n c] 40 (0, 0))
  clear hT
  go_enter Try.func87, Try.ntmps87
  go_wp2
  go_loopw [3, 5, 9] (fun o _ k w' => ∃ (i : Nat) (A' : Option Addr) (c' : Nat), i ≤ n ∧ k = .int .i64 i ∧ o = .slice A' (addTs [] (a.terms.take i)).length c' ∧ Hid (OwnS w w' A' (addTs [] (a.terms.take i)).length c' (addTs [] (a.terms.take i))) ∧ Hid (Ext w w')) (fun _ _ k _ => n - (intOf k).toNat)
  case atStart => exact ⟨0, none, 0, by omega, rfl, rfl, OwnS.nil _ _, HE.out⟩
  case round =>
    obtain ⟨i, A', c', him, rfl, rfl, ho, hw⟩ := hrel
    have hbd := addTs_len [] (a.terms.take i)
    rw [List.length_take] at hbd
    simp only [List.length_nil] at hbd
    by_cases h : i < n
    · obtain ⟨b, off, t, rfl, hx, hb1, c0, c1, c2, c3⟩ := (HT.out.ext RT.stab hw.out).tm h
      have hs := hide (addTs_snoc hx [])
      have HEt := hide (hw.out.trans (Ext.alloc wr (.cells #[.string t.v, .int .i64 t.c.k, .int .i64 t.c.i, .string t.c.t] 60)))
      clear hx
      generalize hl : addTs [] (a.terms.take i) = l at *
      have HL2 := hide hl; clear hl
      by_cases hv : 0 < t.v.size
      · have he := size_some hv
        have Hv := hide (noVar_false hv)
        clear hv
        have HCon := hide (contains_str l t.v A' l.length c' (wr.alloc (.cells #[.string t.v, .int .i64 t.c.k, .int .i64 t.c.i, .string t.c.t] 60)) (ho.out.lat.ext RS.stab (Ext.alloc _ _)) (by omega))
        cases hm : memB l t.v with
        | true =>
          have Hm := hide hm; clear hm
          go_wp2_with ((with_reducible refine HCon.out.mono ?_); rintro e w1 ⟨rfl, rfl⟩; rw [Hm.out])
          go_roundw
          case rel => exact ⟨i + 1, A', c', by omega, by go_num, by rw [hs.out, addT, Hv.out, Hm.out]; rfl, by rw [Hid, hs.out, addT, Hv.out, Hm.out]; exact ⟨ho.out.1, ho.out.2.alloc _⟩, HEt.out⟩
          case measure => simp [intOf]; omega
        | false =>
          have Hm := hide hm; clear hm
          have hsrc := (sl_lit (wr.alloc (.cells #[.string t.v, .int .i64 t.c.k, .int .i64 t.c.i, .string t.c.t] 60)) [.string t.v] 9 1 1 rfl)
          rw [World.size_alloc] at hsrc
          have Hsrc := hide hsrc; clear hsrc
          have HO := hide ho.out.2
          go_wp2_with (first | ((with_reducible refine HCon.out.mono ?_); rintro e w1 ⟨rfl, rfl⟩; rw [Hm.out]) | (at_builtin; refine wpList_append_sl rfl (.tmp 23) (.tmp 26) _ rfl 9 i0 _ 1 16 Try.underlying22 hi0 hz0 hz1 hz2 rfl (by omega) w (HEt.out.trans (Ext.alloc _ _)) _ l.length (strC l) rfl ((HO.out.alloc _).alloc _) _ 1 1 [.string t.v] rfl Hsrc.out (fun v h => by obtain rfl := List.mem_singleton.1 h; rfl) (by unfold maxLen; omega) (by omega) ?_; intro A8 c8 w8 own8 E8 _ _))
          go_roundw
          case rel => exact ⟨i + 1, A8, c8, by omega, by go_num, by rw [hs.out, addT, Hv.out, Hm.out]; simp, by rw [Hid, hs.out, addT, Hv.out, Hm.out]; simp only [Bool.false_eq_true, if_false, List.length_append, List.length_cons, List.length_nil]; exact ⟨by simp, by rw [strC_snoc]; exact own8.out⟩, E8.out⟩
          case measure => simp [intOf]; omega
      · have he := size_empty (s := t.v) (by omega)
        have Hv := hide (noVar_true (t := t) (by omega))
        clear hv
        go_wp2_with fail
        go_roundw
        case rel => exact ⟨i + 1, A', c', by omega, by go_num, by rw [hs.out, addT, Hv.out]; rfl, by rw [Hid, hs.out, addT, Hv.out]; exact ⟨ho.out.1, ho.out.2.alloc _⟩, HEt.out⟩
        case measure => simp [intOf]; omega
    · go_wp2_with fail
      go_ret
      have e : a.terms.take i = a.terms := List.take_of_length_le (by have := HL.out; omega)
      rw [e] at ho ⊢
      exact ⟨A', c', rfl, ho.out, hw.out⟩
end Go.Proofs.Ytpfjkjmimmklcaa

namespace Go.Proofs.Ytpfjkjmimmklcaa
open Go.RowKit

/-- the two slices lie in different blocks -/
def Apart (A B : Option Addr) : Prop := ∀ a b, A = some a → B = some b → a.block ≠ b.block
def BlkIn (w : World) (B : Option Addr) : Prop := ∀ b, B = some b → b.block < w.heap.size
theorem BlkIn.ext {w w' : World} {B : Option Addr} (h : BlkIn w B) (hw : w.heap.size ≤ w'.heap.size) : BlkIn w' B := fun b hb => Nat.lt_of_lt_of_le (h b hb) hw
theorem Apart.none_left (B : Option Addr) : Apart none B := fun a b h _ => by cases h
theorem Apart.symm {A B : Option Addr} (h : Apart A B) : Apart B A := fun a b ha hb => Ne.symm (h b a hb ha)
theorem Apart.grown {w : World} {A A' B : Option Addr} {n c n' c' : Nat} (h : Apart A B) (hB : BlkIn w B) (hl : (Value.slice A' n' c').ownBlock = (Value.slice A n c).ownBlock ∨ (Value.slice A' n' c').ownBlock = some w.heap.size) : Apart A' B := fun a b ha hb => by
  subst ha
  simp only [Value.ownBlock] at hl
  rcases hl with hl | hl
  · cases A with
    | none => simp at hl
    | some a' =>
      simp only [Option.some.injEq] at hl
      rw [hl]
      exact h a' b rfl hb
  · simp only [Option.some.injEq] at hl
    have := hB b hb
    omega
theorem own_new {w0 w : World} {e : TypeId} {s n c : Nat} {A : Option Addr} {xs : List Value} (h : w.ownsRow w0.heap.size e s (.slice A n c) n xs) : ∀ a, A = some a → w0.heap.size ≤ a.block ∧ a.block < w.heap.size := fun a ha => by
  subst ha
  have := h.lt a.block (by simp [Value.ownBlock])
  exact this
theorem Apart.old {w0 w1 w : World} {e : TypeId} {s n c : Nat} {A B : Option Addr} {xs : List Value} (hB : BlkIn w1 B) (hw : w1.heap.size ≤ w0.heap.size) (h : w.ownsRow w0.heap.size e s (.slice A n c) n xs) : Apart A B := fun a b ha hb => by
  have h1 := (own_new h a ha).1
  have h2 := hB b hb
  omega
theorem grown_of_ext {w w' : World} (h : Ext w w') : w.grownBy w' none := ⟨Below.os h, Below.tape h, Below.output h, h.size, fun _ hk _ => h.block hk⟩
theorem own_ext {w w' : World} {base : Nat} {e : TypeId} {s n : Nat} {v : Value} {xs : List Value} (h : w.ownsRow base e s v n xs) (hw : Ext w w') : w'.ownsRow base e s v n xs :=
  h.kept (grown_of_ext hw) (by cases hv : v.ownBlock <;> simp)
theorem Sl.grown {w w' : World} {A B : Option Addr} {n c m size : Nat} {xs : List Value} (h : Sl w B m size xs) (hg : w.grownBy w' (Value.slice A n c).ownBlock) (hap : Apart A B) : Sl w' B m size xs := by
  refine ⟨h.1, fun hm => ?_⟩
  obtain ⟨b, off, hB, hc⟩ := h.2 hm
  refine ⟨b, off, hB, fun j u hu => hg.cell (hc j u hu) ?_⟩
  simp only [Value.ownBlock]
  cases A with
  | none => simp
  | some a =>
    simp only [ne_eq, Option.some.injEq]
    exact fun e => hap a _ rfl hB e.symm
theorem LAt.grown {α : Type} {f : α → List Value} {s : Nat} {w w' : World} {A B : Option Addr} {n c m : Nat} {xs : List α} (h : LAt (RFlat f) s w B m xs) (hg : w.grownBy w' (Value.slice A n c).ownBlock) (hap : Apart A B) : LAt (RFlat f) s w' B m xs := by
  obtain ⟨h1, cells, h2, h3⟩ := h
  exact ⟨h1, cells, h2.mono fun _ _ h => h, h3.grown hg hap⟩
theorem LAt.grownS {w w' : World} {A B : Option Addr} {n c m : Nat} {xs : List ByteArray} (h : LAt RS 1 w B m xs) (hg : w.grownBy w' (Value.slice A n c).ownBlock) (hap : Apart A B) : LAt RS 1 w' B m xs := LAt.grown h hg hap
end Go.Proofs.Ytpfjkjmimmklcaa

namespace Go.Proofs.Ytpfjkjmimmklcaa
open Go.RowKit

def varsTo (as_ : List Atm) (i : Nat) : List ByteArray := (as_.take i).foldl (fun acc a => addTs acc a.terms) []
theorem varsTo_snoc {as_ : List Atm} {i : Nat} {a : Atm} (h : as_[i]? = some a) : varsTo as_ (i + 1) = (varsA a).foldl addV (varsTo as_ i) := by
  rw [varsQ_step]
  unfold varsTo
  rw [List.take_add_one, h]
  simp
theorem foldV_snoc {vs : List ByteArray} {j : Nat} {v : ByteArray} (h : vs[j]? = some v) (acc : List ByteArray) : (vs.take (j + 1)).foldl addV acc = addV ((vs.take j).foldl addV acc) v := by
  rw [List.take_add_one, h]
  simp
theorem foldV_len (acc : List ByteArray) : ∀ vs : List ByteArray, (vs.foldl addV acc).length ≤ acc.length + vs.length
  | [] => by simp
  | v :: vs => by
    have ih := foldV_len (addV acc v) vs
    have : (addV acc v).length ≤ acc.length + 1 := by
      unfold addV
      split
      · omega
      · simp
    rw [List.foldl_cons, List.length_cons]; omega
theorem varsA_len (a : Atm) : (varsA a).length ≤ a.terms.length := by
  have := addTs_len [] a.terms
  simpa [varsA] using this

set_option maxRecDepth 100000 in
theorem query_vars (q : Qy) (L : QLoc) (w : World) (hq : QAt w L q) (hM : smallM 1048576 q) :
    Calls Try.prog 61 #[qval q.name L] w (RetS w (varsQ q)) := by
  obtain ⟨i0, hi0, hz0, hz1, hz2⟩ := info_parts infoS
  obtain ⟨nm, hd, as_⟩ := q
  obtain ⟨A, n, c, B, m, d⟩ := L
  simp only [qval]
  have HQ := hide hq; have HM := hide hM
  have hm := hide (show m = as_.length from hq.atoms.len)
  have hml : m ≤ 1048576 := by have := hM.atomsL; have := hm.out; simp only at *; omega
  clear hq hM
  have HBE := hide (Ext.alloc w (.cells #[.string nm, .slice A n c, .slice B m d] 25))
  go_enter Try.func61, Try.ntmps61
  go_wp2
  go_loopw [3, 5, 7, 11, 18] (fun o _ _ k _ w' => ∃ (i : Nat) (A' : Option Addr) (c' : Nat), i ≤ m ∧ k = .int .i64 i ∧ o = .slice A' (varsTo as_ i).length c' ∧ (varsTo as_ i).length ≤ i * 1048576 ∧ Hid (OwnS w w' A' (varsTo as_ i).length c' (varsTo as_ i)) ∧ Hid (Ext w w')) (fun _ _ _ k _ _ => m - (intOf k).toNat)
  case atStart => exact ⟨0, none, 0, by omega, rfl, rfl, by simp [varsTo], OwnS.nil _ _, HBE.out⟩
  case round =>
    obtain ⟨i, A', c', him, rfl, rfl, hbd, ho, hw⟩ := hrel
    by_cases h : i < m
    · obtain ⟨b, off, a, B1, m1, d1, rfl, hx, hb1, c0, c1, hT⟩ := (HQ.out.atoms.ext RA.stab hw.out).at_ h
      have HSA := hide (HM.out.atoms a (List.mem_of_getElem? hx))
      have hs := hide (varsTo_snoc hx)
      have hvl : (varsA a).length ≤ 1048576 := Nat.le_trans (varsA_len a) HSA.out.len
      have hm1l : m1 ≤ 1048576 := by have := HSA.out.len; have := hT.len; omega
      have HAV := hide (fun w1 (h1 : Ext wr w1) => atom_vars a B1 m1 d1 w1 (hT.ext RT.stab h1) hm1l)
      have HEa := hide (Ext.alloc wr (.cells #[.string a.rel, .slice B1 m1 d1] 40))
      clear hx hT
      generalize hl : varsTo as_ i = l at *
      go_wp2_with fail
      refine (HAV.out _ HEa.out).mono ?_
      rintro e w1 ⟨A2, c2, rfl, hO2, h1⟩
      have HO2 := hide hO2
      have E1 := hide (HEa.out.trans h1)
      have HE1 := hide h1
      have HB2 := hide (show BlkIn w1 A2 from fun a ha => (own_new hO2.2 a ha).2)
      have HA2 := hide (show Apart A' A2 from (Apart.old (w1 := wr) (fun a ha => (own_new ho.out.2 a ha).2) (by simp) hO2.2).symm)
      have HO1 := hide (show OwnS w w1 A' l.length c' l from ⟨rfl, own_ext ho.out.2 E1.out⟩)
      generalize hacc : (fun j => ((varsA a).take j).foldl addV l) = acc
      have HACC := hide (show ∀ j, acc j = ((varsA a).take j).foldl addV l from fun j => by rw [← hacc])
      have hacl : ∀ j, j ≤ (varsA a).length → (acc j).length ≤ l.length + j := fun j hj => by
        have := foldV_len l ((varsA a).take j)
        rw [List.length_take] at this
        rw [HACC.out]; omega
      have HACL := hide hacl
      clear h1 hO2 c0 c1 hb1 hacc hacl
      generalize hvs : varsA a = vs at *
      go_wp2_with fail
      go_loopw [3, 7, 18] (fun o _ k w' => ∃ (j : Nat) (A3 : Option Addr) (c3 : Nat), j ≤ vs.length ∧ k = .int .i64 j ∧ o = .slice A3 (acc j).length c3 ∧ Hid (OwnS w w' A3 (acc j).length c3 (acc j)) ∧ Hid (LAt RS 1 w' A2 vs.length vs) ∧ Hid (Apart A3 A2) ∧ Hid (w1.heap.size ≤ w'.heap.size) ∧ Hid (Ext w w')) (fun _ _ k _ => vs.length - (intOf k).toNat)
      case atStart => exact ⟨0, A', c', by omega, rfl, by rw [HACC.out]; rfl, by rw [HACC.out]; exact HO1.out, HO2.out.lat, HA2.out, Nat.le_refl _, hw.out.trans E1.out⟩
      case round =>
        obtain ⟨j, A3, c3, hjn, rfl, rfl, ho3, hl2, hap, hsz, hw3⟩ := hrel
        have hal := HACL.out j hjn
        by_cases h2 : j < vs.length
        · obtain ⟨b2, off2, v, rfl, hx2, hb2, d0⟩ := hl2.out.str h2
          have hsn := hide (show acc (j + 1) = addV (acc j) v by rw [HACC.out, HACC.out]; exact foldV_snoc hx2 l)
          have HCon := hide (contains_str (acc j) v A3 (acc j).length c3 wr ho3.out.lat (by omega))
          clear hx2
          cases hm : memB (acc j) v with
          | true =>
            have Hm := hide hm; clear hm
            go_wp2_with ((with_reducible refine HCon.out.mono ?_); rintro e w2 ⟨rfl, rfl⟩; rw [Hm.out])
            go_roundw
            case rel => exact ⟨j + 1, A3, c3, by omega, by go_num, by rw [hsn.out, addV, Hm.out]; rfl, by rw [Hid, hsn.out, addV, Hm.out]; exact ho3.out, hl2.out, hap.out, hsz.out, hw3.out⟩
            case measure => simp [intOf]; omega
          | false =>
            have Hm := hide hm; clear hm
            have Hsrc := hide (sl_lit wr [.string v] 9 1 1 rfl)
            have HO := hide ho3.out.2
            go_wp2_with (first | ((with_reducible refine HCon.out.mono ?_); rintro e w2 ⟨rfl, rfl⟩; rw [Hm.out]) | (at_builtin; refine wpList_append_sl rfl (.tmp 26) (.tmp 28) _ rfl 9 i0 _ 1 16 Try.underlying22 hi0 hz0 hz1 hz2 rfl (by omega) w (hw3.out.trans (Ext.alloc _ _)) _ (acc j).length (strC (acc j)) rfl (HO.out.alloc _) _ 1 1 [.string v] rfl Hsrc.out (fun v h => by obtain rfl := List.mem_singleton.1 h; rfl) (by unfold maxLen; omega) (by omega) ?_; intro A8 c8 w8 own8 E8 G8 L8))
            go_roundw
            case rel =>
              refine ⟨j + 1, A8, c8, by omega, by go_num, by rw [hsn.out, addV, Hm.out]; simp, by rw [Hid, hsn.out, addV, Hm.out]; simp only [Bool.false_eq_true, if_false, List.length_append, List.length_cons, List.length_nil]; exact ⟨by simp, by rw [strC_snoc]; exact own8.out⟩, ?_, ?_, ?_, E8.out⟩
              · exact (hl2.out.ext RS.stab (Ext.alloc _ _)).grownS G8.out hap.out
              · exact hap.out.grown ((HB2.out.ext hsz.out).ext (Ext.alloc _ _).size) L8.out
              · exact Nat.le_trans hsz.out (Nat.le_trans (Ext.alloc _ _).size G8.out.size)
            case measure => simp [intOf]; omega
        · have e : vs.take j = vs := List.take_of_length_le (by omega)
          have e2 := hide (show acc j = varsTo as_ (i + 1) by rw [HACC.out, e, hs.out])
          have hvl2 : (acc j).length ≤ (i + 1) * 1048576 := by rw [Nat.add_mul]; omega
          go_wp2_with fail
          go_roundw
          case rel => exact ⟨i + 1, A3, c3, by omega, by go_num, by rw [e2.out], by rw [← e2.out]; exact hvl2, by rw [← e2.out]; exact ho3.out, hw3.out⟩
          case measure => simp [intOf]; omega
    · go_wp2_with fail
      go_ret
      have e : as_.take i = as_ := List.take_of_length_le (by have := hm.out; omega)
      have e2 : varsTo as_ i = varsQ ⟨nm, hd, as_⟩ := by unfold varsTo varsQ; rw [e]
      rw [e2] at ho ⊢
      exact ⟨A', c', rfl, ho.out, hw.out⟩
end Go.Proofs.Ytpfjkjmimmklcaa

namespace Go.Proofs.Ytpfjkjmimmklcaa
open Go.RowKit

theorem unsafe1 (vs : List ByteArray) (x : ByteArray) (g : Nat) (A : Option Addr) (n c : Nat) (w : World) (hc : w.cell? ⟨g, 0, none⟩ = some (.slice A n c)) (hv : LAt RS 1 w A n vs) (hn : n ≤ 1125899906842624) :
    Calls Try.prog 106 #[.string x, .pointer (some ⟨g, 0, none⟩)] w fun e w' => e = .returned (.bool (!memB vs x)) ∧ w = w' := by
  have H := hide (contains_str vs x A n c w hv hn); clear hv
  go_enter Try.func106, Try.ntmps106
  go_wp2_with fail
  refine H.out.mono ?_
  rintro e w1 ⟨rfl, rfl⟩
  go_wp2_with fail
  go_ret
  exact ⟨rfl, rfl⟩

theorem varsQ_len (q : Qy) (h : smallM 1048576 q) : (varsQ q).length ≤ 1125899906842624 := by
  rw [varsQ_flat]
  have h1 := addTs_len [] (q.atoms.flatMap (·.terms))
  have h2 : ∀ as_ : List Atm, (∀ a ∈ as_, a.terms.length ≤ 1048576) → (as_.flatMap (·.terms)).length ≤ as_.length * 1048576 := by
    intro as_
    induction as_ with
    | nil => intro _; simp
    | cons a r ih =>
      intro ha
      have := ih fun x hx => ha x (by simp [hx])
      have := ha a (by simp)
      rw [List.flatMap_cons, List.length_append, List.length_cons, Nat.add_mul]; omega
  have h3 := h2 q.atoms fun a ha => (h.atoms a ha).len
  have h4 := h.atomsL
  simp only [List.length_nil] at h1
  have : q.atoms.length * 1048576 ≤ 1048576 * 1048576 := Nat.mul_le_mul_right _ h4
  omega

set_option maxRecDepth 100000 in
theorem unsafe_var (q : Qy) (L : QLoc) (w : World) (hq : QAt w L q) (hM : smallM 1048576 q) :
    Calls Try.prog 80 #[qval q.name L] w fun e w' => e = .returned (.int .i64 (unsafeI q)) ∧ Ext w w' := by
  have HV := hide (fun w1 (h1 : Ext w w1) => query_vars q L w1 (hq.ext h1) hM)
  have hvl := hide (varsQ_len q hM)
  obtain ⟨nm, hd, as_⟩ := q
  obtain ⟨A, n, c, B, m, d⟩ := L
  simp only [qval] at HV ⊢
  have hnl : n ≤ 1048576 := by have := hM.headL; have := hq.head.len; simp only at *; omega
  have HQ := hide hq
  have HI := hide (fun w1 (h1 : Ext w w1) (g : Nat) (A2 : Option Addr) (k c2 : Nat) (hc : w1.cell? ⟨g, 0, none⟩ = some (.slice A2 k c2)) (hv : LAt RS 1 w1 A2 k (varsQ ⟨nm, hd, as_⟩)) =>
    index_funcS hd (fun h => !memB (varsQ ⟨nm, hd, as_⟩) h) 106 #[.pointer (some ⟨g, 0, none⟩)] A n c w1 (HQ.out.head.ext RS.stab h1) hnl (enters_at Try.func106 (by kernel_rfl) rfl)
      (fun x v w2 hx h2 hvx => by obtain rfl := hvx; exact sameCall (unsafe1 (varsQ ⟨nm, hd, as_⟩) x g A2 k c2 w2 (h2.cell hc) (hv.ext RS.stab h2) (by have := hvl.out; have := hv.len; omega))))
  have HBE := hide (Ext.alloc w (.cells #[.string nm, .slice A n c, .slice B m d] 25))
  have HC := hide (CellsAt.new w [.string nm, .slice A n c, .slice B m d] 25 (0, 0))
  clear hq hM
  go_enter Try.func80, Try.ntmps80
  go_wp2_with fail
  refine (HV.out _ HBE.out).mono ?_
  rintro e w1 ⟨A2, c2, rfl, hO2, h1⟩
  have E1 := hide (HBE.out.trans h1)
  have HO2 := hide hO2.lat
  have q1 := HC.out.ext h1 1 _ rfl
  generalize hk : (varsQ ⟨nm, hd, as_⟩).length = k at *
  clear hO2 h1 HC HBE HV
  have hw1 : w.heap.size < w1.heap.size := World.block_lt_of_cell? w1 _ q1
  go_wp2_with fail
  refine (HI.out _ (E1.out.trans (Ext.alloc _ _)) _ A2 k c2 (CellsAt.new w1 [.slice A2 k c2] 22 (0, 0) 0 _ rfl) (HO2.out.ext RS.stab (Ext.alloc _ _))).mono ?_
  rintro e w2 ⟨rfl, h2⟩
  have E2 := hide (E1.out.trans ((Ext.alloc _ _).trans h2)); clear h2 q1
  go_wp2_with fail
  go_ret
  exact ⟨rfl, E2.out⟩

set_option maxRecDepth 100000 in
theorem query_shape (q : Qy) (L : QLoc) (w : World) (hq : QAt w L q) (hM : smallM 1048576 q) :
    Calls Try.prog 41 #[qval q.name L] w fun e w' => e = .returned (.int .i64 (shapeQ q)) ∧ Ext w w' := by
  have HN := hide (fun w1 (h1 : Ext w w1) => bad_name q L w1 (hq.ext h1) hM)
  have HU := hide (fun w1 (h1 : Ext w w1) => unsafe_var q L w1 (hq.ext h1) hM)
  have hml : L.m ≤ 1048576 := by have := hM.atomsL; have := hq.atoms.len; omega
  have hnl : L.n ≤ 1048576 := by have := hM.headL; have := hq.head.len; omega
  have HD := hide (fun w1 (h1 : Ext w w1) => doubled_any q.head L.A L.n L.c w1 (hq.head.ext RS.stab h1) hnl hq.cap)
  have H1 := hide (fun w1 (h1 : Ext w w1) (g : Nat) (hc : CellsAt w1 g [.string q.name, .slice L.A L.n L.c, .slice L.B L.m L.d]) => shape1 q L g 75 badA w1 (hq.ext h1) hml hc
    (enters_at Try.func75 (by kernel_rfl) rfl) (fun x v w2 hx _ hv => shape2 x v w2 hv (hM.atoms x hx)))
  have H2 := hide (fun w1 (h1 : Ext w w1) (g : Nat) (hc : CellsAt w1 g [.string q.name, .slice L.A L.n L.c, .slice L.B L.m L.d]) => shape1 q L g 78 wideA w1 (hq.ext h1) hml hc
    (enters_at Try.func78 (by kernel_rfl) rfl) (fun x v w2 hx _ hv => shape3 x v w2 hv))
  have hml2 := hide hq.atoms.len
  generalize hbn : badNameQ q = bn at *
  generalize hba : q.atoms.any badA = ba at *
  generalize hwd : q.atoms.any wideA = wd at *
  have HS := hide (show shapeQ q = if bn then 72 else if ba then 21 else if q.atoms.length = 0 ∨ 6 < q.atoms.length then 90 else if wd then 91 else if dblB q.head then 92 else if unsafeB q then 93 else 0 by rw [shapeQ, hbn, hba, hwd])
  clear hbn hba hwd hq hM
  have hdd := hide (show dblB q.head = decide (0 ≤ dblI q.head 0 q.head) from rfl)
  have huu := hide (show decide (0 ≤ unsafeI q) = unsafeB q from firstI_any _ _ _)
  generalize dblI q.head 0 q.head = di at *
  generalize unsafeI q = ui at *
  generalize hsh : shapeQ q = sh at *
  obtain ⟨nm, hd, as_⟩ := q
  obtain ⟨A, n, c, B, m, d⟩ := L
  simp only [qval] at *
  have HBE := hide (Ext.alloc w (.cells #[.string nm, .slice A n c, .slice B m d] 25))
  have HC := hide (CellsAt.new w [.string nm, .slice A n c, .slice B m d] 25 (0, 0))
  clear hsh
  go_enter Try.func41, Try.ntmps41
  go_wp2_with fail
  refine (HN.out _ HBE.out).mono ?_
  rintro e w1 ⟨rfl, h1⟩
  have E1 := hide (HBE.out.trans h1)
  have HC1 := hide (HC.out.ext h1)
  clear h1 HN HC HBE
  cases bn with
  | true =>
    have HX := hide (HS.out.trans (if_pos rfl)); clear HS
    go_wp2_with fail
    go_ret
    exact ⟨ret_int HX.out.symm, E1.out⟩
  | false =>
    go_wp2_with fail
    refine (H1.out _ E1.out _ HC1.out).mono ?_
    rintro e w2 ⟨rfl, h2⟩
    have E2 := hide (E1.out.trans h2)
    have HC2 := hide (HC1.out.ext h2)
    clear h2 HC1 E1 H1
    cases ba with
    | true =>
      have HX := hide (HS.out.trans ((if_neg (by simp)).trans (if_pos rfl))); clear HS
      go_wp2_with fail
      go_ret
      exact ⟨ret_int HX.out.symm, E2.out⟩
    | false =>
      have c2 := HC2.out 2 _ rfl
      by_cases hz : m = 0
      · subst hz
        have HX := hide (HS.out.trans ((if_neg (by simp)).trans ((if_neg (by simp)).trans (if_pos (.inl hml2.out.symm))))); clear HS
        go_wp2_with fail
        go_ret
        exact ⟨ret_int HX.out.symm, E2.out⟩
      · have hz1 : ((m : Int) == 0) = false := by simp; omega
        by_cases h6 : 6 < m
        · have HX := hide (HS.out.trans ((if_neg (by simp)).trans ((if_neg (by simp)).trans (if_pos (.inr (by have := hml2.out; omega)))))); clear HS
          have Hz := hide hz; clear hz
          go_wp2_with fail
          go_ret
          exact ⟨ret_int HX.out.symm, E2.out⟩
        · have HS2 := hide (HS.out.trans ((if_neg (by simp)).trans ((if_neg (by simp)).trans (if_neg (by have := hml2.out; omega))))); clear HS
          have Hz := hide hz; clear hz
          go_wp2_with fail
          refine (H2.out _ E2.out _ HC2.out).mono ?_
          rintro e w3 ⟨rfl, h3⟩
          have E3 := hide (E2.out.trans h3)
          have HC3 := hide (HC2.out.ext h3)
          clear h3 HC2 E2 H2 c2
          cases wd with
          | true =>
            have HX := hide (HS2.out.trans (if_pos rfl)); clear HS2
            go_wp2_with fail
            go_ret
            exact ⟨ret_int HX.out.symm, E3.out⟩
          | false =>
            have c1 := HC3.out 1 _ rfl
            go_wp2_with fail
            refine (HD.out _ E3.out).mono ?_
            rintro e w4 ⟨rfl, rfl⟩
            by_cases hdi : 0 ≤ di
            · have HX := hide (HS2.out.trans ((if_neg (by simp)).trans (if_pos (by rw [hdd.out]; simpa using hdi)))); clear HS2
              go_wp2_with fail
              go_ret
              exact ⟨ret_int HX.out.symm, E3.out⟩
            · have HS3 := hide (HS2.out.trans ((if_neg (by simp)).trans (if_neg (by rw [hdd.out]; simpa using hdi)))); clear HS2
              have c0 := HC3.out 0 _ rfl
              have c2 := HC3.out 2 _ rfl
              go_wp2_with fail
              refine (HU.out _ E3.out).mono ?_
              rintro e w5 ⟨rfl, h5⟩
              have E5 := hide (E3.out.trans h5)
              clear h5 c0 c1 c2 HC3
              by_cases hui : 0 ≤ ui
              · have HX := hide (HS3.out.trans (if_pos (by rw [← huu.out]; simpa using hui))); clear HS3
                go_wp2_with fail
                go_ret
                exact ⟨ret_int HX.out.symm, E5.out⟩
              · have HX := hide (HS3.out.trans (if_neg (by rw [← huu.out]; simpa using hui))); clear HS3
                go_wp2_with fail
                go_ret
                exact ⟨ret_int HX.out.symm, E5.out⟩
end Go.Proofs.Ytpfjkjmimmklcaa
