/-
  The shape of a query: the document's.
-/
import Derived.Test.YthjpcnceppmnmaaRef5
import Derived.Deep.DeepCutAuto
namespace Go.Proofs.Ythjpcnceppmnmaa
open Go.RowKit

def okT (t : Tm) : Bool := !badT t
def okA (a : Atm) : Bool := a.terms.all okT
theorem okA_bad (as_ : List Atm) : as_.any badA = !as_.all okA := by
  have h : ∀ a, badA a = !okA a := fun a => by
    unfold badA okA okT
    rw [Bool.eq_iff_iff]; simp
  rw [show badA = fun a => !okA a from funext h]
  exact any_not okA as_
theorem okT_var {t : Tm} (h : noVar t = false) : okT t = sameV t.c zeroV := by simp [okT, badT, h]
theorem okT_const {t : Tm} (h : noVar t = true) : okT t = validV t.c := by simp [okT, badT, h]
theorem at_lt {l : List ByteArray} {i : Nat} {x : ByteArray} (h : l[i]? = some x) : firstI (eqB x) l 0 < (i : Int) ↔ memB (l.take i) x = true := by
  have hx : l.any (eqB x) = true := List.any_eq_true.2 ⟨x, List.mem_of_getElem? h, by simp [eqB]⟩
  obtain ⟨k, y, h1, h2, h3, h4⟩ := firstI_some (eqB x) l 0 ((firstI_iff _ _ _).2 hx)
  have hy : y = x := by simpa [eqB] using h3
  subst hy
  rw [h1, memB_iff]
  constructor
  · intro hk
    have hk' : k < i := by omega
    exact List.mem_iff_getElem?.2 ⟨k, by rw [List.getElem?_take, if_pos hk']; exact h2⟩
  · intro hm
    obtain ⟨j, hj⟩ := List.mem_iff_getElem?.1 hm
    rw [List.getElem?_take] at hj
    split at hj
    · rename_i hji
      rcases Nat.lt_or_ge j k with hjk | hjk
      · have := h4 j y hjk hj
        simp [eqB] at this
      · omega
    · cases hj
theorem take_any {α : Type} (p : α → Bool) (xs : List α) (i : Nat) (x : α) (h : xs[i]? = some x) : (xs.take (i + 1)).any p = ((xs.take i).any p || p x) := by
  rw [List.take_add_one, h]; simp

set_option maxHeartbeats 4000000 in
set_option maxRecDepth 100000 in
theorem ref_shape (q : Qy) (L : QLoc) (w : World) (hq : QAt w L q) (hM : smallM 1048576 q) :
    Calls Try.prog 21 #[qval q.name L] w fun e w' => e = .returned (.int .i64 (shapeQ q)) ∧ Ext w w' := by
  obtain ⟨nm, hd, as_⟩ := q
  obtain ⟨A, n, c, B, m, d⟩ := L
  simp only [qval] at *
  have hml : m ≤ 1048576 := by have := hM.atomsL; have := hq.atoms.len; simp only at *; omega
  have hnl : n ≤ 1048576 := by have := hM.headL; have := hq.head.len; simp only at *; omega
  have hma := hide (show m = as_.length from hq.atoms.len)
  have hna := hide (show n = hd.length from hq.head.len)
  have HQ := hide hq; have HM := hide hM; clear hq hM
  generalize hW1 : w.alloc (.cells #[.string nm, .slice A n c, .slice B m d] 25) = W1
  have HE := hide (show Ext w W1 from hW1 ▸ Ext.alloc w _)
  have HB := hide (show CellsAt W1 w.heap.size [.string nm, .slice A n c, .slice B m d] from hW1 ▸ CellsAt.new w [.string nm, .slice A n c, .slice B m d] 25 (0, 0))
  have HN := hide (fun w1 => ref_is_name nm w1 HM.out.name)
  have HW1 := hide hW1; clear hW1
  go_enter Try.func21, Try.ntmps21
  go_wp2_with ((with_reducible refine (HN.out _).mono ?_); rintro e w1 ⟨rfl, rfl⟩)
  rw [HW1.out]
  generalize hnh : (fun i => nameB nm && (hd.take i).all nameB) = nh
  have NH := hide (show ∀ i, nh i = (nameB nm && (hd.take i).all nameB) from fun i => by rw [← hnh])
  clear hnh
  go_loopw [3, 4] (fun b k w' => ∃ i : Nat, i ≤ n ∧ k = .int .i64 i ∧ b = .bool (nh i) ∧ W1 = w') (fun _ k _ => n - (intOf k).toNat)
  case atStart => exact ⟨0, by omega, rfl, by rw [NH.out]; simp, rfl⟩
  case round =>
    obtain ⟨i, hin, rfl, rfl, rfl⟩ := hrel
    have b1 := HB.out 1 _ rfl
    by_cases h : i < n
    · obtain ⟨b, off, x, rfl, hx, hb1, c0⟩ := (HQ.out.head.ext RS.stab HE.out).str h
      have hs := hide (show nh (i + 1) = (nh i && nameB x) by rw [NH.out, NH.out, take_all _ _ _ _ hx, Bool.and_assoc])
      have HNX := hide (fun w1 => ref_is_name x w1 (HM.out.heads x (List.mem_of_getElem? hx)))
      clear hx
      cases hb : nh i
      all_goals
        have Hb := hide hb; clear hb
        go_wp2_with ((with_reducible refine (HNX.out _).mono ?_); rintro e w1 ⟨rfl, rfl⟩)
        go_roundw
        case rel => exact ⟨i + 1, by omega, by go_num, by rw [hs.out, Hb.out]; simp, trivial⟩
        case measure => simp [intOf]; omega
    · have hnf := hide (show nh i = (nameB nm && hd.all nameB) by rw [NH.out, List.take_of_length_le (by have := hna.out; omega)])
      generalize nh i = nf at *
      clear NH
      generalize hA : (fun i => nf && (as_.take i).all nameA) = na
      generalize hV : (fun i => (as_.take i).all okA) = va
      generalize hWd : (fun i => (as_.take i).any wideA) = wa
      have NA := hide (show ∀ i, na i = (nf && (as_.take i).all nameA) from fun i => by rw [← hA])
      have VA := hide (show ∀ i, va i = (as_.take i).all okA from fun i => by rw [← hV])
      have WA := hide (show ∀ i, wa i = (as_.take i).any wideA from fun i => by rw [← hWd])
      clear hA hV hWd
      go_wp2_with fail
      go_loopw [3, 5, 6, 7, 8, 9] (fun b v wd k _ _ w' => ∃ i : Nat, i ≤ m ∧ k = .int .i64 i ∧ b = .bool (na i) ∧ v = .bool (va i) ∧ wd = .bool (wa i) ∧ Hid (Ext W1 w')) (fun _ _ _ k _ _ _ => m - (intOf k).toNat)
      case atStart => exact ⟨0, by omega, rfl, by rw [NA.out]; simp, by rw [VA.out]; simp, by rw [WA.out]; simp, Ext.refl _⟩
      case round =>
        obtain ⟨i, him, rfl, rfl, rfl, rfl, hw⟩ := hrel
        have b2 := HB.out.ext hw.out 2 _ rfl
        by_cases h2 : i < m
        · obtain ⟨b, off, a, B1, m1, d1, rfl, hx, hb1, c0, c1, hT⟩ := (HQ.out.atoms.ext RA.stab (HE.out.trans hw.out)).at_ h2
          have hs1 := hide (show na (i + 1) = ((na i && nameB a.rel) && a.terms.all nameT) by rw [NA.out, NA.out, take_all _ _ _ _ hx, nameA]; simp [Bool.and_assoc])
          have hs2 := hide (show va (i + 1) = (va i && a.terms.all okT) by rw [VA.out, VA.out, take_all _ _ _ _ hx, okA])
          have hs3 := hide (show wa (i + 1) = (wa i || wideA a) by rw [WA.out, WA.out, take_any _ _ _ _ hx])
          have HSA := hide (HM.out.atoms a (List.mem_of_getElem? hx))
          have HNX := hide (fun w1 => ref_is_name a.rel w1 HSA.out.rel)
          have hmt := hide hT.len
          have hm1 : m1 ≤ 1048576 := by have := HSA.out.len; have := hT.len; omega
          have HT := hide hT
          clear hx hT
          generalize hni : na i = ni at *
          generalize hvi : va i = vi at *
          generalize hwi : wa i = wi at *
          go_upto_region 10 with fail
          go_cut [3] from 151 (fun s3 wx => s3 = .bool (ni && nameB a.rel) ∧ wr = wx)
          case first =>
            cases ni
            all_goals
              go_wp2_with ((with_reducible refine (HNX.out _).mono ?_); rintro e w1 ⟨rfl, rfl⟩)
              go_meet
              exact ⟨by simp, rfl⟩
          case rest =>
            obtain ⟨rfl, rfl⟩ := hcut
            go_upto_region 11 with fail
            have hbm : (m1 : Int) = a.terms.length := by have := hmt.out; omega
            have HWA := hide (show decide ((5 : Int) < (m1 : Int)) = wideA a by rw [wideA, Bool.eq_iff_iff]; simp; omega)
            clear hbm
            go_cut [6] from 151 (fun s6 wx => s6 = .bool (wi || wideA a) ∧ wr = wx)
            case first =>
              cases wi
              all_goals
                go_wp2_with fail
                go_meet
                exact ⟨by first | rfl | (rw [← HWA.out]; simp), rfl⟩
            case rest =>
              obtain ⟨rfl, rfl⟩ := hcut
              go_wp2_with fail
              generalize hnj : (fun j => (ni && nameB a.rel) && (a.terms.take j).all nameT) = nj
              generalize hvj : (fun j => vi && (a.terms.take j).all okT) = vj
              have NJ := hide (show ∀ j, nj j = ((ni && nameB a.rel) && (a.terms.take j).all nameT) from fun j => by rw [← hnj])
              have VJ := hide (show ∀ j, vj j = (vi && (a.terms.take j).all okT) from fun j => by rw [← hvj])
              clear hnj hvj
              have C0 := hide c0; have C1 := hide c1
              clear b2 c0 c1
              go_loopw [3, 5, 8, 9] (fun b v k _ w' => ∃ j : Nat, j ≤ m1 ∧ k = .int .i64 j ∧ b = .bool (nj j) ∧ v = .bool (vj j) ∧ Hid (Ext wr w')) (fun _ _ k _ _ => m1 - (intOf k).toNat)
              case atStart => exact ⟨0, by omega, rfl, by rw [NJ.out]; simp, by rw [VJ.out]; simp, Ext.refl _⟩
              case round =>
                obtain ⟨j, hjm, rfl, rfl, rfl, hw2⟩ := hrel
                have b2 := HB.out.ext (hw.out.trans hw2.out) 2 _ rfl
                have c1 := hw2.out.cell C1.out
                by_cases h3 : j < m1
                · obtain ⟨b', off', t, rfl, hx2, hb2, d0, d1_, d2, d3⟩ := (HT.out.ext RT.stab hw2.out).tm h3
                  have hy1 := hide (show nj (j + 1) = (nj j && nameT t) by rw [NJ.out, NJ.out, take_all _ _ _ _ hx2]; simp [Bool.and_assoc])
                  have hy2 := hide (show vj (j + 1) = (vj j && okT t) by rw [VJ.out, VJ.out, take_all _ _ _ _ hx2]; simp [Bool.and_assoc])
                  have HTT := hide (HSA.out.terms t (List.mem_of_getElem? hx2))
                  have HNT := hide (fun w1 => ref_is_name t.v w1 HTT.out.1)
                  have HVV := hide (fun w1 => ref_val_valid t.c w1 HTT.out.2.1)
                  have HE3 := hide (hw2.out.trans (Ext.alloc wr (.cells #[.string t.v, .int .i64 t.c.k, .int .i64 t.c.i, .string t.c.t] 76)))
                  clear hx2
                  simp only [V.val] at HVV
                  by_cases hv : 0 < t.v.size
                  · have he := size_some hv
                    have hn1 := hide (show nj (j + 1) = (nj j && nameB t.v) by rw [hy1.out, nameT, noVar_false hv]; rfl)
                    have hv1 := hide (show vj (j + 1) = (vj j && sameV t.c zeroV) by rw [hy2.out, okT_var (noVar_false hv)])
                    clear hv
                    go_upto_region 17 with fail
                    go_cut [3] from 151 (fun s3 wx => s3 = .bool (nj (j + 1)) ∧ wr.alloc (.cells #[.string t.v, .int .i64 t.c.k, .int .i64 t.c.i, .string t.c.t] 76) = wx)
                    case first =>
                      cases hnj : nj j
                      all_goals
                        have Hnj := hide hnj; clear hnj
                        go_wp2_with ((with_reducible refine (HNT.out _).mono ?_); rintro e w1 ⟨rfl, rfl⟩)
                        go_meet
                        exact ⟨by rw [hn1.out, Hnj.out]; simp, rfl⟩
                    case rest =>
                      obtain ⟨rfl, rfl⟩ := hcut
                      obtain ⟨tv, ck, ci, ct⟩ := t
                      dsimp only at d0 d1_ d2 d3 he HE3 hv1 hn1 ⊢
                      cases hvj : vj j
                      case' false =>
                        have hfin := hide (show vj (j + 1) = false by rw [hv1.out, hvj]; rfl)
                        have Hvj := hide hvj; clear hvj
                        go_wp2_with fail
                        go_roundw
                        case rel => exact ⟨j + 1, by omega, by go_num, rfl, by rw [hfin.out], HE3.out⟩
                        case measure => simp [intOf]; omega
                      case' true =>
                        have hfin0 := hide (show vj (j + 1) = sameV ⟨ck, ci, ct⟩ zeroV by rw [hv1.out, hvj]; rfl)
                        have Hvj := hide hvj; clear hvj
                        have hx0 := hide (empty_iff ct)
                        by_cases k1 : ck = 0
                        · subst k1
                          by_cases k2 : ci = 0
                          · subst k2
                            by_cases k3 : ct.toList = []
                            · have hfin := hide (show vj (j + 1) = true by rw [hfin0.out, hx0.out.1 k3]; rfl)
                              go_wp2_with fail
                              go_roundw
                              case rel => exact ⟨j + 1, by omega, by go_num, rfl, by rw [hfin.out], HE3.out⟩
                              case measure => simp [intOf]; omega
                            · have hfin := hide (show vj (j + 1) = false by rw [hfin0.out]; simp [sameV, zeroV]; exact decide_eq_false (fun e => k3 (hx0.out.2 e)))
                              go_wp2_with fail
                              go_roundw
                              case rel => exact ⟨j + 1, by omega, by go_num, rfl, by rw [hfin.out], HE3.out⟩
                              case measure => simp [intOf]; omega
                          · have hfin := hide (show vj (j + 1) = false by rw [hfin0.out]; simp [sameV, zeroV, k2])
                            go_wp2_with fail
                            go_roundw
                            case rel => exact ⟨j + 1, by omega, by go_num, rfl, by rw [hfin.out], HE3.out⟩
                            case measure => simp [intOf]; omega
                        · have hfin := hide (show vj (j + 1) = false by rw [hfin0.out]; simp [sameV, zeroV, k1])
                          go_wp2_with fail
                          go_roundw
                          case rel => exact ⟨j + 1, by omega, by go_num, rfl, by rw [hfin.out], HE3.out⟩
                          case measure => simp [intOf]; omega
                  · have he := size_empty (s := t.v) (by omega)
                    have hn1 := hide (show nj (j + 1) = nj j by rw [hy1.out, nameT, noVar_true (by omega)]; simp)
                    have hv1 := hide (show vj (j + 1) = (vj j && validV t.c) by rw [hy2.out, okT_const (noVar_true (by omega))])
                    clear hv
                    cases hvj : vj j
                    case' false =>
                      have Hvj := hide hvj; clear hvj
                      go_wp2_with fail
                      have HE4 := HE3
                    case' true =>
                      have Hvj := hide hvj; clear hvj
                      go_wp2_with ((with_reducible refine (HVV.out _).mono ?_); rintro e w1 ⟨rfl, h1⟩; have HE4 := hide (HE3.out.trans h1); clear h1)
                    all_goals
                      go_roundw
                      case rel => exact ⟨j + 1, by omega, by go_num, by rw [hn1.out], by rw [hv1.out, Hvj.out]; simp, HE4.out⟩
                      case measure => simp [intOf]; omega
                · have hz1 := hide (show nj j = na (i + 1) by rw [NJ.out, hs1.out, List.take_of_length_le (by have := hmt.out; omega)])
                  have hz2 := hide (show vj j = va (i + 1) by rw [VJ.out, hs2.out, List.take_of_length_le (by have := hmt.out; omega)])
                  go_wp2_with fail
                  go_roundw
                  case rel => exact ⟨i + 1, by omega, by go_num, by rw [hz1.out], by rw [hz2.out], by rw [hs3.out], hw.out.trans hw2.out⟩
                  case measure => simp [intOf]; omega
        · have e1 : na i = (nf && as_.all nameA) := by rw [NA.out, List.take_of_length_le (by have := hma.out; omega)]
          have e2 : va i = as_.all okA := by rw [VA.out, List.take_of_length_le (by have := hma.out; omega)]
          have e3 : wa i = as_.any wideA := by rw [WA.out, List.take_of_length_le (by have := hma.out; omega)]
          have HS := hide (show shapeQ ⟨nm, hd, as_⟩ = if na i = false then 72 else if va i = false then 21 else if as_.length = 0 ∨ 6 < as_.length then 90 else if wa i = true then 91 else if dblB hd = true then 92 else if unsafeB ⟨nm, hd, as_⟩ = true then 93 else 0 by
            rw [shapeQ, e1, e2, e3, hnf.out, badNameQ, okA_bad]
            simp only [Bool.not_eq_true', Bool.and_assoc])
          clear e1 e2 e3
          cases hn : na i with
          | false =>
            have HX := hide (HS.out.trans (if_pos hn)); clear HS
            go_wp2_with fail
            go_ret
            exact ⟨ret_int HX.out.symm, HE.out.trans hw.out⟩
          | true =>
            have HS2 := hide (HS.out.trans (if_neg (by simp [hn]))); clear HS
            have Hn := hide hn; clear hn
            cases hv : va i with
            | false =>
              have HX := hide (HS2.out.trans (if_pos hv)); clear HS2
              go_wp2_with fail
              go_ret
              exact ⟨ret_int HX.out.symm, HE.out.trans hw.out⟩
            | true =>
              have HS3 := hide (HS2.out.trans (if_neg (by simp [hv]))); clear HS2
              have Hv := hide hv; clear hv
              by_cases hz : m = 0
              · have HX := hide (HS3.out.trans (if_pos (.inl (by have := hma.out; omega)))); clear HS3
                subst hz
                go_wp2_with fail
                go_ret
                exact ⟨ret_int HX.out.symm, HE.out.trans hw.out⟩
              · have hz1 : ¬ (m : Int) < 1 := by omega
                by_cases h6 : 6 < m
                · have HX := hide (HS3.out.trans (if_pos (.inr (by have := hma.out; omega)))); clear HS3
                  have h61 : (6 : Int) < (m : Int) := by omega
                  go_wp2_with fail
                  go_ret
                  exact ⟨ret_int HX.out.symm, HE.out.trans hw.out⟩
                · have HS4 := hide (HS3.out.trans (if_neg (by have := hma.out; omega))); clear HS3
                  have h61 : ¬ (6 : Int) < (m : Int) := by omega
                  cases hwd : wa i with
                  | true =>
                    have HX := hide (HS4.out.trans (if_pos hwd)); clear HS4
                    go_wp2_with fail
                    go_ret
                    exact ⟨ret_int HX.out.symm, HE.out.trans hw.out⟩
                  | false =>
                    have HS5 := hide (HS4.out.trans (if_neg (by simp [hwd]))); clear HS4
                    have Hwd := hide hwd; clear hwd
                    have HV := hide (fun w1 (h1 : Ext w w1) => ref_vars ⟨nm, hd, as_⟩ ⟨A, n, c, B, m, d⟩ w1 (HQ.out.ext h1) HM.out (by simp only; omega))
                    have hvl := hide (varsQ_len ⟨nm, hd, as_⟩ HM.out)
                    have HU := hide (show unsafeB ⟨nm, hd, as_⟩ = hd.any (fun h => !memB (varsQ ⟨nm, hd, as_⟩) h) from rfl)
                    simp only [qval] at HV
                    generalize varsQ ⟨nm, hd, as_⟩ = vq at HV hvl HU
                    go_wp2_with fail
                    go_loopw [10] (fun k w' => ∃ p : Nat, p ≤ n ∧ k = .int .i64 p ∧ Hid (∀ (j : Nat) (x : ByteArray), j < p → hd[j]? = some x → memB (hd.take j) x = false) ∧ Hid (Ext W1 w')) (fun k _ => n - (intOf k).toNat)
                    case atStart => exact ⟨0, by omega, rfl, fun j x hj => by omega, hw.out⟩
                    case round =>
                      obtain ⟨p, hpn, rfl, hp, hw3⟩ := hrel
                      have b1 := HB.out.ext hw3.out 1 _ rfl
                      by_cases h4 : p < n
                      · obtain ⟨b', off', x, rfl, hx, hb3, e0⟩ := (HQ.out.head.ext RS.stab (HE.out.trans hw3.out)).str h4
                        have hal := at_lt hx
                        have HX := hide hx
                        have HAt := hide (fun w1 (h1 : Ext wr w1) => ref_at hd x (some ⟨b', off', none⟩) n c w1 (HQ.out.head.ext RS.stab (HE.out.trans (hw3.out.trans h1))) (by omega))
                        clear hx
                        generalize hf : firstI (eqB x) hd 0 = f at hal HAt
                        clear hf
                        have b1 := cell_ext b1
                        have e0 := cell_ext e0
                        by_cases hlt : f < (p : Int)
                        · have HDB := hide (show dblB hd = true by
                            have hm := hal.1 hlt
                            unfold dblB
                            rw [decide_eq_true_iff]
                            rcases Int.lt_or_le (dblI hd 0 hd) 0 with hneg | hpos
                            · have := (dblI_neg hd hd 0 rfl).1 hneg p x (Nat.zero_le _) HX.out
                              rw [hm] at this; cases this
                            · exact hpos)
                          clear hal
                          have HX2 := hide (HS5.out.trans (if_pos HDB.out)); clear HS5
                          go_wp2_with fail
                          refine wp_region_ext 10 (by kernel_rfl) (by kernel_rfl) (by kernel_rfl) ?_
                          iterate 10
                            refine wpE_k (by kernel_rfl) (by kernel_rfl) ?_
                            apply Exists.intro
                            refine ⟨fun w1 hw1 => ?_, fun K hK => ?_⟩
                            · go_simp; first | done | rfl | exact sameCall (HAt.out _ ‹_›)
                            go_simp; refine hK _ _ ?_; clear hK K
                          refine wpE_nil ⟨rfl, by kernel_rfl, fun wq hwq => ?_⟩
                          simp only [EndQ]
                          refine wpList_nil ?_
                          have HF := hide (hw3.out.trans hwq); clear hwq b1 e0
                          go_wp2_with fail
                          go_ret
                          exact ⟨ret_int HX2.out.symm, HE.out.trans HF.out⟩
                        · have hnm := hide (show memB (hd.take p) x = false by
                            cases hm : memB (hd.take p) x with
                            | false => rfl
                            | true => exact absurd (hal.2 hm) hlt)
                          clear hal
                          go_wp2_with fail
                          refine wp_region_ext 10 (by kernel_rfl) (by kernel_rfl) (by kernel_rfl) ?_
                          iterate 10
                            refine wpE_k (by kernel_rfl) (by kernel_rfl) ?_
                            apply Exists.intro
                            refine ⟨fun w1 hw1 => ?_, fun K hK => ?_⟩
                            · go_simp; first | done | rfl | exact sameCall (HAt.out _ ‹_›)
                            go_simp; refine hK _ _ ?_; clear hK K
                          refine wpE_nil ⟨rfl, by kernel_rfl, fun wq hwq => ?_⟩
                          simp only [EndQ]
                          refine wpList_nil ?_
                          have HF := hide (hw3.out.trans hwq); clear hwq b1 e0
                          go_wp2_with fail
                          go_roundw
                          case rel =>
                            refine ⟨p + 1, by omega, by go_num, fun j y hj hy => ?_, HF.out⟩
                            rcases Nat.lt_or_ge j p with hjp | hjp
                            · exact hp.out j y hjp hy
                            · obtain rfl : j = p := by omega
                              have h5 := HX.out.symm.trans hy
                              injection h5 with h5
                              rw [← h5]; exact hnm.out
                          case measure => simp [intOf]; omega
                      · have HDB := hide (show dblB hd = false by
                          unfold dblB
                          rw [decide_eq_false_iff_not]
                          have := (dblI_neg hd hd 0 rfl).2 fun j x _ hj => hp.out j x (by have := (List.getElem?_eq_some_iff.1 hj).1; have := hna.out; omega) hj
                          omega)
                        have HS6 := hide (HS5.out.trans (if_neg (by simp [HDB.out]))); clear HS5
                        have b0 := HB.out.ext hw3.out 0 _ rfl
                        have b2 := HB.out.ext hw3.out 2 _ rfl
                        go_wp2_with fail
                        refine (HV.out _ (HE.out.trans hw3.out)).mono ?_
                        rintro e w5 ⟨A5, c5, rfl, hO5, h5⟩
                        have HO5 := hide hO5.lat
                        have E5 := hide (hw3.out.trans h5)
                        clear hO5 h5 b0 b1 b2 HV
                        have hvn : vq.length ≤ 1125899906842624 := hvl.out
                        go_wp2_with fail
                        go_loopw [12] (fun k w' => ∃ r : Nat, r ≤ n ∧ k = .int .i64 r ∧ Hid ((hd.take r).any (fun h => !memB vq h) = false) ∧ w5 = w') (fun k _ => n - (intOf k).toNat)
                        case atStart => exact ⟨0, by omega, rfl, by simp [Hid], rfl⟩
                        case round =>
                          obtain ⟨r, hrn, rfl, hr, rfl⟩ := hrel
                          have b1 := HB.out.ext E5.out 1 _ rfl
                          by_cases h6 : r < n
                          · obtain ⟨b', off', x, rfl, hx, hb3, e0⟩ := (HQ.out.head.ext RS.stab (HE.out.trans E5.out)).str h6
                            have HX := hide hx
                            have HIn := hide (ref_in vq x A5 vq.length c5 w5 HO5.out hvn)
                            have hta := hide (take_any (fun h => !memB vq h) hd r x hx)
                            clear hx
                            cases hm : memB vq x with
                            | false =>
                              have HX2 := hide (HS6.out.trans (if_pos (by rw [HU.out]; exact List.any_eq_true.2 ⟨x, List.mem_of_getElem? HX.out, by simp [hm]⟩))); clear HS6
                              have Hm := hide hm; clear hm
                              go_wp2_with ((with_reducible refine HIn.out.mono ?_); rintro e w1 ⟨rfl, rfl⟩; rw [Hm.out])
                              go_ret
                              exact ⟨ret_int HX2.out.symm, HE.out.trans E5.out⟩
                            | true =>
                              have Hm := hide hm; clear hm
                              go_wp2_with ((with_reducible refine HIn.out.mono ?_); rintro e w1 ⟨rfl, rfl⟩; rw [Hm.out])
                              go_roundw
                              case rel => exact ⟨r + 1, by omega, by go_num, by rw [Hid, hta.out, hr.out, Hm.out]; rfl, trivial⟩
                              case measure => simp [intOf]; omega
                          · have HX2 := hide (HS6.out.trans (if_neg (by
                              rw [HU.out]
                              have := hr.out
                              rw [List.take_of_length_le (by have := hna.out; omega)] at this
                              simp [this]))); clear HS6
                            go_wp2_with fail
                            go_ret
                            exact ⟨ret_int HX2.out.symm, HE.out.trans E5.out⟩
end Go.Proofs.Ythjpcnceppmnmaa
