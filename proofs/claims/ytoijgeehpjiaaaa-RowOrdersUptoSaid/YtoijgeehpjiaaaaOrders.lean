/-
  RowOrders: Compare is a total order, and a row comes ahead of all that go on from it: where what comes in is of bulk at most 1048576.
-/
import Derived.Test.YtoijgeehpjiaaaaOrd
import Derived.Test.YtoijgeehpjiaaaaCmp2
import Derived.Test.YtoijgeehpjiaaaaSame
import Derived.Test.YtoijgeehpjiaaaaClose
namespace Go.Proofs.Ytoijgeehpjiaaaa
open Go.RowKit Go.ChangeShapes Go.WideShapes Go.ChangeAt

theorem lawOrders (ra rb rc : List V) (A B C : Option Addr) (n m l ca cb cc : Nat) (w : World) (ha : RowAt w A n ra) (hb : RowAt w B m rb) (hc : RowAt w C l rc) (hn : n ≤ 1048576) (hm : m ≤ 1048576) (hl : l ≤ 1048576) :
    Calls Try.prog 3 #[.slice A n ca, .slice B m cb, .slice C l cc] w fun e w' => e = .returned (.bool true) ∧ Ext w w' := by
  have Ha := hide ha; have Hb := hide hb; have Hc := hide hc; clear ha hb hc
  obtain ⟨x, hx⟩ : ∃ x, x = cmpR ra rb := ⟨_, rfl⟩
  obtain ⟨y, hy⟩ : ∃ y, y = cmpR rb rc := ⟨_, rfl⟩
  obtain ⟨z, hz⟩ : ∃ z, z = cmpR ra rc := ⟨_, rfl⟩
  have xr := isCmp_row.range ra rb
  have hanti := isCmp_row.anti ra rb
  have htr := isCmp_row.trans ra rb rc
  have heq := isCmp_row.eq ra rb
  rw [← hx] at xr hanti htr heq
  rw [← hy, ← hz] at htr
  have x1 : -1 ≤ x := by omega
  have x2 : x ≤ 1 := by omega
  have hs : sameR ra rb = (x == 0) := by
    rw [Bool.eq_iff_iff, sameR_iff, ← heq]; simp
  have Hx := hide hx; have Hy := hide hy; have Hz := hide hz; have Hanti := hide hanti; have Hs := hide hs
  clear hx hy hz hanti hs heq xr
  obtain ⟨i0, hi0, hz0, hz1, hz2⟩ := info_parts infoV
  go_enter Try.func3, Try.ntmps3
  go_wp2_with fail
  refine (row_cmp [] [⟨1, 1, ⟨#[]⟩⟩] none _ 0 1 0 1 _ (RowAt.nil _ _) (RowAt.lit w [⟨1, 1, ⟨#[]⟩⟩] 26) (by omega) (by omega)).mono ?_
  rintro e w1 ⟨rfl, h1⟩
  have E1 := hide ((Ext.alloc w _).trans h1); clear h1
  simp only [show cmpR [] [(⟨1, 1, ⟨#[]⟩⟩ : V)] = -1 from rfl]
  go_wp2_with fail
  refine (row_cmp ra rb A B n m ca cb _ (Ha.out.ext E1.out) (Hb.out.ext E1.out) (by omega) (by omega)).mono ?_
  rintro e w2 ⟨rfl, h1⟩
  have E2 := hide (E1.out.trans h1); clear h1 E1
  rw [← Hx.out]
  go_wp2_with fail
  refine (row_cmp rb rc B C m l cb cc _ (Hb.out.ext E2.out) (Hc.out.ext E2.out) (by omega) (by omega)).mono ?_
  rintro e w3 ⟨rfl, h1⟩
  have E3 := hide (E2.out.trans h1); clear h1 E2
  rw [← Hy.out]
  go_wp2_with fail
  refine (row_cmp ra rc A C n l ca cc _ (Ha.out.ext E3.out) (Hc.out.ext E3.out) (by omega) (by omega)).mono ?_
  rintro e w4 ⟨rfl, h1⟩
  have E4 := hide (E3.out.trans h1); clear h1 E3
  rw [← Hz.out]
  go_wp2_with fail
  refine (row_cmp rb ra B A m n cb ca _ (Hb.out.ext E4.out) (Ha.out.ext E4.out) (by omega) (by omega)).mono ?_
  rintro e w5 ⟨rfl, h1⟩
  have E5 := hide (E4.out.trans h1); clear h1 E4
  rw [Hanti.out]
  go_wp2_with fail
  refine (same_any ra rb A B n m ca cb _ (Ha.out.ext E5.out) (Hb.out.ext E5.out) (by omega)).mono ?_
  rintro e w6 ⟨rfl, h1⟩
  have E6 := hide (E5.out.trans h1); clear h1 E5
  rw [Hs.out]
  go_wp2_with fail
  all_goals
    refine (copy_any ra A n ca _ (Ha.out.ext E6.out) (by omega)).mono ?_
    rintro e w7 ⟨A7, c7, rfl, own7, h1⟩
    have E67 := hide h1
    have E7 := hide (E6.out.trans h1)
    have O7 := hide own7; clear h1 own7
    go_wp2_with (at_builtin; refine wpList_append_sl rfl (.tmp 59) (.tmp 60) _ rfl 26 i0 _ 3 32 Try.underlying23 hi0 hz0 hz1 hz2 rfl (by omega) w6 E67.out _ n (cellsR ra) rfl O7.out B m cb (cellsR rb) rfl (Hb.out.ext E7.out).2 (cellsR_one rb) (by unfold maxLen; omega) (by omega) ?_; intro A8 c8 w8 own8 E68 _ _)
    all_goals have E8 := hide (E6.out.trans E68.out)
    all_goals clear E67 E7 O7 E68
    rotate_left
    · have hne : rb ≠ [] := fun e => by have := Hb.out.len; rw [e] at this; simp at this; contradiction
      have hlong := hide (cmpR_longer ra rb hne)
      refine (row_cmp ra (ra ++ rb) A A8 n (n + m) ca c8 _ (Ha.out.ext E8.out) (RowAt.own (by rw [cellsR_append]; exact own8.out)) (by omega) (by omega)).mono ?_
      rintro e w9 ⟨rfl, h1⟩
      have E9 := hide (E8.out.trans h1); clear h1 E8 own8 hne
      rw [hlong.out]
      go_wp2_with fail
      go_ret
      exact ⟨rfl, E9.out⟩
    · go_ret
      exact ⟨rfl, E8.out⟩

theorem orders_contract (H : Type) (enc : TypeId × Value → H) (W : World) (base : Nat) (args : Array Value) (ds gs : List (DataW H)) (before : List MemPlace)
    (hval : ∀ (j : Nat) t v, Try.f3.params[j]? = some t → args[j]? = some v → Value.okWide Try.prog W .any base t v)
    (hW : DataW.Whole enc Try.prog Try.f3.params.toList Rows.rowOrdersSpec.vars false W args.toList ds gs before) (hk : Rows.uptoSmall H (ds ++ gs) = true) :
    Calls Try.prog 3 args W fun e W' => ∃ v, e = .returned v ∧ Rows.rowOrdersSpec.post enc Try.prog Try.f3 false true false false W args v W' := by
  have hW' := hW
  obtain ⟨p, q, hA, hV, rfl, hfz, hnd⟩ := hW
  obtain ⟨rfl, rfl⟩ := trodVars_none (hV : DataW.TrodVars enc Try.prog W (fun _ => true) [] gs q)
  have hA : DataW.TrodAll enc Try.prog W 0 (fun _ => true) true [23, 23, 23] args.toList ds p := hA
  rw [Try.params3] at hval
  obtain ⟨v0, vs0, d0, ds0, p0, q0, hargs, rfl, rfl, h0, r0⟩ := trodAll_cons hA
  obtain ⟨v1, vs1, d1, ds1, p1, q1, rfl, rfl, rfl, h1, r1⟩ := trodAll_cons r0
  obtain ⟨v2, vs2, d2, ds2, p2, q2, rfl, rfl, rfl, h2, r2⟩ := trodAll_cons r1
  obtain ⟨rfl, rfl, rfl⟩ := trodAll_nil r2
  obtain rfl : args = #[v0, v1, v2] := by cases args; simp_all
  obtain ⟨_, _, _, rfl⟩ := okWide_slice Try.underlying23 (hval 0 23 v0 rfl rfl)
  obtain ⟨_, _, _, rfl⟩ := okWide_slice Try.underlying23 (hval 1 23 v1 rfl rfl)
  obtain ⟨_, _, _, rfl⟩ := okWide_slice Try.underlying23 (hval 2 23 v2 rfl rfl)
  obtain ⟨f0, h0⟩ := h0
  obtain ⟨f1, h1⟩ := h1
  obtain ⟨f2, h2⟩ := h2
  obtain ⟨A, n, ca, ra, e0, ha, _, b0, _⟩ := open_row Try.underlying23 h0
  obtain ⟨B, m, cb, rb, e1, hb, _, b1, _⟩ := open_row Try.underlying23 h1
  obtain ⟨C, l, cc, rc, e2, hc, _, b2, _⟩ := open_row Try.underlying23 h2
  simp only [Value.cells, List.cons.injEq, and_true, Value.slice.injEq] at e0 e1 e2
  obtain ⟨rfl, rfl, rfl⟩ := e0
  obtain ⟨rfl, rfl, rfl⟩ := e1
  obtain ⟨rfl, rfl, rfl⟩ := e2
  have hbulk : Rows.uptoBulkAll ([d0, d1, d2] ++ []) ≤ 1048576 := of_decide_eq_true hk
  simp only [List.cons_append, List.nil_append, Rows.uptoBulkAll] at hbulk
  dsimp only at b0 b1 b2
  refine (lawOrders ra rb rc _ _ _ _ _ _ _ _ _ W ha hb hc (by omega) (by omega) (by omega)).mono fun e W' ⟨he, hE⟩ => ⟨_, he, ?_⟩
  exact law_post laidOut (tb := 4) (by kernel_rfl) (by rfl) Try.underlying4 rfl rfl hW' hE

set_option maxRecDepth 100000 in
theorem orders_lifted (os : Os) (started : os.Started) (H : Type) (enc : TypeId × Value → H) (F : Stop.Interp) :
    ReturnsInHanded {} Try.checked os 3 .any ((Rows.OpenSpec.upto Rows.rowOrdersSpec).pre6 enc Try.prog Try.f3 Rows.rowOrdersUptoRow.domain false) (((Rows.OpenSpec.upto Rows.rowOrdersSpec).at F).post enc Try.prog Try.f3 false true false false) := by
  refine returnsInHanded_of_cond (C := Try.checked) (s := Rows.OpenSpec.upto Rows.rowOrdersSpec) (k := Rows.uptoSmall) rfl own started (by kernel_rfl) Try.func3
    (OpenSpec.witness (enc := enc) (C := Try.checked) (s := Rows.OpenSpec.upto Rows.rowOrdersSpec) (k := Rows.uptoSmall) rfl false ⟨#[], #[.slice none 0 0, .slice none 0 0, .slice none 0 0], []⟩ 8 (by kernel_rfl) (by kernel_rfl) (by kernel_rfl)
      (x := ([.nil, .nil, .nil], [], [])) (by kernel_rfl) rfl (by kernel_rfl)) ?_
  intro W base args ds gs before hval hW _ hk _
  exact orders_contract H enc W base args ds gs before hval hW hk

theorem orders_proved : Rows.RowOrdersUptoSaid :=
  OpenClaim.holds_of_cond 3 Try.f3 rfl rfl rfl rfl rfl rfl rfl ⟨rfl, rfl, rfl, rfl, rfl⟩ rfl rfl rfl rfl rfl (by kernel_rfl) Try.func3 (by kernel_rfl)
    (of_decide_eq_true (by kernel_rfl)) (by unfold Func.isWrapper; first | (rw [if_pos (by decide +kernel)]; kernel_rfl) | (rw [if_neg (by decide +kernel)]; exact ⟨rfl, rfl⟩))
    (fun os started H enc _ F => orders_lifted os started H enc F)
end Go.Proofs.Ytoijgeehpjiaaaa
