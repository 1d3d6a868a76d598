/-
  Parts of a query's shape: terms; closures; doubled variables; variables.
-/
import Derived.Test.YthjpcnceppmnmaaShape1
namespace Go.Proofs.Ythjpcnceppmnmaa
open Go.RowKit

theorem empty_iff (x : ByteArray) : x.toList = [] ↔ x = .empty := by
  have h0 : ([] : List UInt8) = ByteArray.empty.toList := by rw [ByteArray.toList_eq]; rfl
  rw [h0, bytes_toList]

set_option maxRecDepth 100000 in
theorem bad_term (t : Tm) (w : World) (hs : t.c.t.size ≤ 1048576) : Calls Try.prog 75 #[t.val] w fun e w' => e = .returned (.bool (badT t)) ∧ Ext w w' := by
  obtain ⟨v, k, i, x⟩ := t
  have HV := hide (fun w1 => val_valid ⟨k, i, x⟩ w1 hs)
  have HE := hide (Ext.alloc w (.cells #[.string v, .int .i64 k, .int .i64 i, .string x] 76))
  simp only [Tm.val, V.val] at *
  by_cases hv : 0 < v.size
  · have he := size_some hv
    have HB := hide (show badT ⟨v, k, i, x⟩ = !sameV ⟨k, i, x⟩ zeroV by rw [badT, noVar_false hv]; rfl)
    clear hv
    clear HV hs
    by_cases hk : k = 0
    · subst hk
      by_cases hi : i = 0
      · subst hi
        have hx2 := empty_iff x
        by_cases hx : x.toList = []
        · have HX := hide (hx2.1 hx); clear hx2
          go_enter Try.func75, Try.ntmps75
          go_wp2_with fail
          go_ret
          exact ⟨ret_bool (by rw [HB.out, HX.out]; rfl), HE.out⟩
        · have HX := hide (fun e => hx (hx2.2 e)); clear hx2
          go_enter Try.func75, Try.ntmps75
          go_wp2_with fail
          go_ret
          exact ⟨ret_bool (by rw [HB.out]; simp [sameV, zeroV]; exact decide_eq_false HX.out), HE.out⟩
      · go_enter Try.func75, Try.ntmps75
        go_wp2_with fail
        go_ret
        exact ⟨ret_bool (by rw [HB.out]; simp [sameV, zeroV, hi]), HE.out⟩
    · go_enter Try.func75, Try.ntmps75
      go_wp2_with fail
      go_ret
      exact ⟨ret_bool (by rw [HB.out]; simp [sameV, zeroV, hk]), HE.out⟩
  · have he := size_empty (s := v) (by omega)
    have HB := hide (show badT ⟨v, k, i, x⟩ = !validV ⟨k, i, x⟩ by rw [badT, noVar_true (by simp only; omega)]; rfl)
    clear hv
    go_enter Try.func75, Try.ntmps75
    go_wp2_with fail
    refine (HV.out _).mono ?_
    rintro e w1 ⟨rfl, h1⟩
    have E1 := hide (HE.out.trans h1); clear h1
    go_wp2_with fail
    go_ret
    exact ⟨ret_bool (by rw [HB.out]), E1.out⟩

/-- a query that is kept in a variable's block -/
theorem shape1 (q : Qy) (L : QLoc) (g : Nat) (f : FuncId) (p : Atm → Bool) (w : World) (hq : QAt w L q) (hm : L.m ≤ 1048576) (hc : CellsAt w g [.string q.name, .slice L.A L.n L.c, .slice L.B L.m L.d])
    (eg : ∀ args w, (callFunc f args).run Try.prog w = .ok (.enter f args) w)
    (hf : ∀ (x : Atm) (v : Value) (w1 : World), x ∈ q.atoms → Ext w w1 → VA w1 v x → Calls Try.prog f (#[v] ++ #[]) w1 fun e w2 => e = .returned (.bool (p x)) ∧ Ext w1 w2) :
    Calls Try.prog 70 #[.func (.func f) #[] #[], .pointer (some ⟨g, 0, none⟩)] w fun e w' => e = .returned (.bool (q.atoms.any p)) ∧ Ext w w' := by
  obtain ⟨nm, hd, as_⟩ := q
  obtain ⟨A, n, c, B, m, d⟩ := L
  have H := hide (contains_funcA as_ p f #[] B m d w hq.atoms hm eg hf)
  have c2 := hc 2 _ rfl
  clear hq hf hc eg
  go_enter Try.func70, Try.ntmps70
  go_wp2_with fail
  refine H.out.mono ?_
  rintro e w1 ⟨rfl, h1⟩
  have E1 := hide h1; clear h1 c2
  go_wp2_with fail
  go_ret
  exact ⟨rfl, E1.out⟩

theorem shape2 (a : Atm) (v : Value) (w : World) (hv : VA w v a) (hM : smallA 1048576 a) : Calls Try.prog 73 #[v] w fun e w' => e = .returned (.bool (badA a)) ∧ Ext w w' := by
  obtain ⟨A, n, c, rfl, hT⟩ := hv
  have hn : n ≤ 1048576 := by have := hT.len; have := hM.len; omega
  have H := hide (fun w1 (h1 : Ext w w1) => contains_funcT a.terms badT 75 #[] A n c w1 (hT.ext RT.stab h1) hn (enters_at Try.func75 (by kernel_rfl) rfl)
    (fun x v w2 hx _ hv => by subst hv; exact bad_term x w2 (hM.terms x hx).2.1))
  have HE := hide (Ext.alloc w (.cells #[.string a.rel, .slice A n c] 43))
  clear hM hT
  go_enter Try.func73, Try.ntmps73
  go_wp2_with fail
  refine (H.out _ HE.out).mono ?_
  rintro e w1 ⟨rfl, h1⟩
  have E1 := hide (HE.out.trans h1); clear h1
  go_wp2_with fail
  go_ret
  exact ⟨rfl, E1.out⟩

theorem shape3 (a : Atm) (v : Value) (w : World) (hv : VA w v a) : Calls Try.prog 76 #[v] w fun e w' => e = .returned (.bool (wideA a)) ∧ Ext w w' := by
  obtain ⟨A, n, c, rfl, hT⟩ := hv
  have hn := hide hT.len
  have HE := hide (Ext.alloc w (.cells #[.string a.rel, .slice A n c] 43))
  clear hT
  go_enter Try.func76, Try.ntmps76
  go_wp2_with fail
  all_goals
    go_ret
    exact ⟨ret_bool (by rw [wideA, ← hn.out, Bool.eq_iff_iff]; simp; omega), HE.out⟩

set_option maxRecDepth 100000 in
theorem doubled_any (xs : List ByteArray) (A : Option Addr) (n c : Nat) (w : World) (ha : LAt RS 1 w A n xs) (hn : n ≤ 1048576) (hc : n ≤ c) :
    Calls Try.prog 77 #[.slice A n c] w fun e w' => e = .returned (.int .i64 (dblI xs 0 xs)) ∧ w = w' := by
  have Ha := hide ha; clear ha
  go_enter Try.func77, Try.ntmps77
  go_wp2
  go_loop [3, 4, 7] (fun _ _ k => ∃ i : Nat, i ≤ n ∧ k = .int .i64 i ∧ Hid (dblI xs 0 xs = dblI xs i (xs.drop i))) (fun _ _ k => n - (intOf k).toNat)
  case atStart => exact ⟨0, by omega, rfl, rfl⟩
  case round =>
    obtain ⟨i, hin, rfl, ho⟩ := hrel
    by_cases h : i < n
    · obtain ⟨b, off, y, rfl, hx, hb1, c0⟩ := Ha.out.str h
      have hd := hide (dblI_drop hx); clear hx
      have HCon := hide (contains_str (xs.take i) y (some ⟨b, off, none⟩) i c w (Ha.out.take i hin) (by omega))
      cases hm : memB (xs.take i) y with
      | true =>
        have Hm := hide hm; clear hm
        go_wp2_with ((refine HCon.out.mono ?_); rintro e w1 ⟨rfl, rfl⟩; rw [Hm.out])
        go_ret
        exact ⟨ret_int (by rw [ho.out, hd.out, if_pos Hm.out]), rfl⟩
      | false =>
        have Hm := hide hm; clear hm
        go_wp2_with ((refine HCon.out.mono ?_); rintro e w1 ⟨rfl, rfl⟩; rw [Hm.out])
        go_round
        case rel => exact ⟨i + 1, by omega, by go_num, by rw [Hid, ho.out, hd.out, Hm.out]; rfl⟩
        case measure => simp [intOf]; omega
    · go_wp2_with fail
      go_ret
      exact ⟨ret_int (by rw [ho.out, List.drop_of_length_le (by have := Ha.out.len; omega)]; rfl), rfl⟩

theorem sl_lit (w : World) (cs : List Value) (t : TypeId) (n s : Nat) (h : cs.length = n * s) : Sl (w.alloc (.cells cs.toArray t)) (some ⟨w.heap.size, 0, none⟩) n s cs :=
  ⟨h, fun _ => ⟨w.heap.size, 0, rfl, fun j u hu => by rw [Nat.zero_add]; exact CellsAt.new w cs t (0, 0) j u hu⟩⟩
def strC (xs : List ByteArray) : List Value := xs.flatMap fun t => [.string t]
theorem strC_len (xs : List ByteArray) : (strC xs).length = xs.length := by induction xs <;> simp_all [strC]
theorem strC_els (w : World) (xs : List ByteArray) : Els RS 1 w (strC xs) xs := Els.flat (f := fun t => [.string t]) (fun _ => rfl) (fun x v h => by obtain rfl := List.mem_singleton.1 h; rfl) xs
theorem strC_snoc (xs : List ByteArray) (x : ByteArray) : strC (xs ++ [x]) = strC xs ++ [.string x] := by simp [strC]
theorem infoS : (Try.prog.info? 9).map (fun i => (i.zero, i.size, i.bytes)) = some (some (.string .empty), 1, 16) := by kernel_rfl
/-- texts of the call's own -/
def OwnS (w0 w : World) (A : Option Addr) (n c : Nat) (xs : List ByteArray) : Prop := n = xs.length ∧ w.ownsRow w0.heap.size 9 1 (.slice A n c) n (strC xs)
theorem OwnS.lat {w0 w : World} {A : Option Addr} {n c : Nat} {xs : List ByteArray} (h : OwnS w0 w A n c xs) : LAt RS 1 w A n xs := LAt.own h.1 (strC_els w xs) h.2
theorem OwnS.nil (w0 w : World) : OwnS w0 w none 0 0 [] := ⟨rfl, World.ownsRow_nil w _ _ _⟩
/-- texts of the call's own are handed back -/
def RetS (w0 : World) (xs : List ByteArray) (en : Ending) (w' : World) : Prop := ∃ A c, en = .returned (.slice A xs.length c) ∧ OwnS w0 w' A xs.length c xs ∧ Ext w0 w'

theorem addTs_snoc {ts : List Tm} {i : Nat} {t : Tm} (h : ts[i]? = some t) (acc : List ByteArray) : addTs acc (ts.take (i + 1)) = addT (addTs acc (ts.take i)) t := by
  rw [List.take_add_one, h]
  simp [addTs]
theorem addTs_len (acc : List ByteArray) : ∀ ts : List Tm, (addTs acc ts).length ≤ acc.length + ts.length
  | [] => by simp [addTs]
  | t :: ts => by
    have ih := addTs_len (addT acc t) ts
    have e : addTs acc (t :: ts) = addTs (addT acc t) ts := rfl
    have : (addT acc t).length ≤ acc.length + 1 := by
      unfold addT
      split
      · omega
      · split
        · omega
        · simp
    rw [e, List.length_cons]; omega

set_option maxRecDepth 100000 in
theorem atom_vars (a : Atm) (A : Option Addr) (n c : Nat) (w : World) (hT : LAt RT 4 w A n a.terms) (hn : n ≤ 1048576) :
    Calls Try.prog 81 #[.agg #[.string a.rel, .slice A n c]] w (RetS w (varsA a)) := by
  obtain ⟨i0, hi0, hz0, hz1, hz2⟩ := info_parts infoS
  have HT := hide hT; have HL := hide hT.len
  have HE := hide (Ext.alloc w (.cells #[.string a.rel, .slice A n c] 43))
  have HC := hide (CellsAt.new w [.string a.rel, .slice A n c] 43 (0, 0))
  clear hT
  go_enter Try.func81, Try.ntmps81
  go_wp2
  go_loopw [3, 5, 9] (fun o _ k w' => ∃ (i : Nat) (A' : Option Addr) (c' : Nat), i ≤ n ∧ k = .int .i64 i ∧ o = .slice A' (addTs [] (a.terms.take i)).length c' ∧ Hid (OwnS w w' A' (addTs [] (a.terms.take i)).length c' (addTs [] (a.terms.take i))) ∧ Hid (Ext w w')) (fun _ _ k _ => n - (intOf k).toNat)
  case atStart => exact ⟨0, none, 0, by omega, rfl, rfl, OwnS.nil _ _, HE.out⟩
  case round =>
    obtain ⟨i, A', c', him, rfl, rfl, ho, hw⟩ := hrel
    have hbd := addTs_len [] (a.terms.take i)
    rw [List.length_take] at hbd
    simp only [List.length_nil] at hbd
    by_cases h : i < n
    · obtain ⟨b, off, t, rfl, hx, hb1, c0, c1, c2, c3⟩ := (HT.out.ext RT.stab hw.out).tm h
      have hs := hide (addTs_snoc hx [])
      have HEt := hide (hw.out.trans (Ext.alloc wr (.cells #[.string t.v, .int .i64 t.c.k, .int .i64 t.c.i, .string t.c.t] 76)))
      clear hx
      generalize hl : addTs [] (a.terms.take i) = l at *
      have HL2 := hide hl; clear hl
      by_cases hv : 0 < t.v.size
      · have he := size_some hv
        have Hv := hide (noVar_false hv)
        clear hv
        have HCon := hide (contains_str l t.v A' l.length c' (wr.alloc (.cells #[.string t.v, .int .i64 t.c.k, .int .i64 t.c.i, .string t.c.t] 76)) (ho.out.lat.ext RS.stab (Ext.alloc _ _)) (by omega))
        cases hm : memB l t.v with
        | true =>
          have Hm := hide hm; clear hm
          go_wp2_with ((refine HCon.out.mono ?_); rintro e w1 ⟨rfl, rfl⟩; rw [Hm.out])
          go_roundw
          case rel => exact ⟨i + 1, A', c', by omega, by go_num, by rw [hs.out, addT, Hv.out, Hm.out]; rfl, by rw [Hid, hs.out, addT, Hv.out, Hm.out]; exact ⟨ho.out.1, ho.out.2.alloc _⟩, HEt.out⟩
          case measure => simp [intOf]; omega
        | false =>
          have Hm := hide hm; clear hm
          have hsrc := (sl_lit (wr.alloc (.cells #[.string t.v, .int .i64 t.c.k, .int .i64 t.c.i, .string t.c.t] 76)) [.string t.v] 9 1 1 rfl)
          rw [World.size_alloc] at hsrc
          have Hsrc := hide hsrc; clear hsrc
          have HO := hide ho.out.2
          go_wp2_with (first | ((refine HCon.out.mono ?_); rintro e w1 ⟨rfl, rfl⟩; rw [Hm.out]) | (at_builtin; refine wpList_append_sl rfl (.tmp 23) (.tmp 26) _ rfl 9 i0 _ 1 16 Try.underlying22 hi0 hz0 hz1 hz2 rfl (by omega) w (HEt.out.trans (Ext.alloc _ _)) _ l.length (strC l) rfl ((HO.out.alloc _).alloc _) _ 1 1 [.string t.v] rfl Hsrc.out (fun v h => by obtain rfl := List.mem_singleton.1 h; rfl) (by unfold maxLen; omega) (by omega) ?_; intro A8 c8 w8 own8 E8 _ _))
          go_roundw
          case rel => exact ⟨i + 1, A8, c8, by omega, by go_num, by rw [hs.out, addT, Hv.out, Hm.out]; simp, by rw [Hid, hs.out, addT, Hv.out, Hm.out]; simp only [Bool.false_eq_true, if_false, List.length_append, List.length_cons, List.length_nil]; exact ⟨by simp, by rw [strC_snoc]; exact own8.out⟩, E8.out⟩
          case measure => simp [intOf]; omega
      · have he := size_empty (s := t.v) (by omega)
        have Hv := hide (noVar_true (t := t) (by omega))
        clear hv
        go_wp2_with fail
        go_roundw
        case rel => exact ⟨i + 1, A', c', by omega, by go_num, by rw [hs.out, addT, Hv.out]; rfl, by rw [Hid, hs.out, addT, Hv.out]; exact ⟨ho.out.1, ho.out.2.alloc _⟩, HEt.out⟩
        case measure => simp [intOf]; omega
    · go_wp2_with fail
      go_ret
      have e : a.terms.take i = a.terms := List.take_of_length_le (by have := HL.out; omega)
      rw [e] at ho ⊢
      exact ⟨A', c', rfl, ho.out, hw.out⟩
end Go.Proofs.Ythjpcnceppmnmaa
