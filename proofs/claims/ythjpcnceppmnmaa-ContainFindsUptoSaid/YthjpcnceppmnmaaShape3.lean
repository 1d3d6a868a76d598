/-
  A query's variables; its shape.
-/
import Derived.Test.YthjpcnceppmnmaaGrow
namespace Go.Proofs.Ythjpcnceppmnmaa
open Go.RowKit

def varsTo (as_ : List Atm) (i : Nat) : List ByteArray := (as_.take i).foldl (fun acc a => addTs acc a.terms) []
theorem varsTo_snoc {as_ : List Atm} {i : Nat} {a : Atm} (h : as_[i]? = some a) : varsTo as_ (i + 1) = (varsA a).foldl addV (varsTo as_ i) := by
  rw [varsQ_step]
  unfold varsTo
  rw [List.take_add_one, h]
  simp
theorem foldV_snoc {vs : List ByteArray} {j : Nat} {v : ByteArray} (h : vs[j]? = some v) (acc : List ByteArray) : (vs.take (j + 1)).foldl addV acc = addV ((vs.take j).foldl addV acc) v := by
  rw [List.take_add_one, h]
  simp
theorem foldV_len (acc : List ByteArray) : ∀ vs : List ByteArray, (vs.foldl addV acc).length ≤ acc.length + vs.length
  | [] => by simp
  | v :: vs => by
    have ih := foldV_len (addV acc v) vs
    have : (addV acc v).length ≤ acc.length + 1 := by
      unfold addV
      split
      · omega
      · simp
    rw [List.foldl_cons, List.length_cons]; omega
theorem varsA_len (a : Atm) : (varsA a).length ≤ a.terms.length := by
  have := addTs_len [] a.terms
  simpa [varsA] using this

set_option maxRecDepth 100000 in
theorem query_vars (q : Qy) (L : QLoc) (w : World) (hq : QAt w L q) (hM : smallM 1048576 q) :
    Calls Try.prog 52 #[qval q.name L] w (RetS w (varsQ q)) := by
  obtain ⟨i0, hi0, hz0, hz1, hz2⟩ := info_parts infoS
  obtain ⟨nm, hd, as_⟩ := q
  obtain ⟨A, n, c, B, m, d⟩ := L
  simp only [qval]
  have HQ := hide hq; have HM := hide hM
  have hm := hide (show m = as_.length from hq.atoms.len)
  have hml : m ≤ 1048576 := by have := hM.atomsL; have := hm.out; simp only at *; omega
  clear hq hM
  have HBE := hide (Ext.alloc w (.cells #[.string nm, .slice A n c, .slice B m d] 25))
  go_enter Try.func52, Try.ntmps52
  go_wp2
  go_loopw [3, 5, 7, 11, 18] (fun o _ _ k _ w' => ∃ (i : Nat) (A' : Option Addr) (c' : Nat), i ≤ m ∧ k = .int .i64 i ∧ o = .slice A' (varsTo as_ i).length c' ∧ (varsTo as_ i).length ≤ i * 1048576 ∧ Hid (OwnS w w' A' (varsTo as_ i).length c' (varsTo as_ i)) ∧ Hid (Ext w w')) (fun _ _ _ k _ _ => m - (intOf k).toNat)
  case atStart => exact ⟨0, none, 0, by omega, rfl, rfl, by simp [varsTo], OwnS.nil _ _, HBE.out⟩
  case round =>
    obtain ⟨i, A', c', him, rfl, rfl, hbd, ho, hw⟩ := hrel
    by_cases h : i < m
    · obtain ⟨b, off, a, B1, m1, d1, rfl, hx, hb1, c0, c1, hT⟩ := (HQ.out.atoms.ext RA.stab hw.out).at_ h
      have HSA := hide (HM.out.atoms a (List.mem_of_getElem? hx))
      have hs := hide (varsTo_snoc hx)
      have hvl : (varsA a).length ≤ 1048576 := Nat.le_trans (varsA_len a) HSA.out.len
      have hm1l : m1 ≤ 1048576 := by have := HSA.out.len; have := hT.len; omega
      have HAV := hide (fun w1 (h1 : Ext wr w1) => atom_vars a B1 m1 d1 w1 (hT.ext RT.stab h1) hm1l)
      have HEa := hide (Ext.alloc wr (.cells #[.string a.rel, .slice B1 m1 d1] 43))
      clear hx hT
      generalize hl : varsTo as_ i = l at *
      go_wp2_with fail
      refine (HAV.out _ HEa.out).mono ?_
      rintro e w1 ⟨A2, c2, rfl, hO2, h1⟩
      have HO2 := hide hO2
      have E1 := hide (HEa.out.trans h1)
      have HE1 := hide h1
      have HB2 := hide (show BlkIn w1 A2 from fun a ha => (own_new hO2.2 a ha).2)
      have HA2 := hide (show Apart A' A2 from (Apart.old (w1 := wr) (fun a ha => (own_new ho.out.2 a ha).2) (by simp) hO2.2).symm)
      have HO1 := hide (show OwnS w w1 A' l.length c' l from ⟨rfl, own_ext ho.out.2 E1.out⟩)
      generalize hacc : (fun j => ((varsA a).take j).foldl addV l) = acc
      have HACC := hide (show ∀ j, acc j = ((varsA a).take j).foldl addV l from fun j => by rw [← hacc])
      have hacl : ∀ j, j ≤ (varsA a).length → (acc j).length ≤ l.length + j := fun j hj => by
        have := foldV_len l ((varsA a).take j)
        rw [List.length_take] at this
        rw [HACC.out]; omega
      have HACL := hide hacl
      clear h1 hO2 c0 c1 hb1 hacc hacl
      generalize hvs : varsA a = vs at *
      go_wp2_with fail
      go_loopw [3, 7, 18] (fun o _ k w' => ∃ (j : Nat) (A3 : Option Addr) (c3 : Nat), j ≤ vs.length ∧ k = .int .i64 j ∧ o = .slice A3 (acc j).length c3 ∧ Hid (OwnS w w' A3 (acc j).length c3 (acc j)) ∧ Hid (LAt RS 1 w' A2 vs.length vs) ∧ Hid (Apart A3 A2) ∧ Hid (w1.heap.size ≤ w'.heap.size) ∧ Hid (Ext w w')) (fun _ _ k _ => vs.length - (intOf k).toNat)
      case atStart => exact ⟨0, A', c', by omega, rfl, by rw [HACC.out]; rfl, by rw [HACC.out]; exact HO1.out, HO2.out.lat, HA2.out, Nat.le_refl _, hw.out.trans E1.out⟩
      case round =>
        obtain ⟨j, A3, c3, hjn, rfl, rfl, ho3, hl2, hap, hsz, hw3⟩ := hrel
        have hal := HACL.out j hjn
        by_cases h2 : j < vs.length
        · obtain ⟨b2, off2, v, rfl, hx2, hb2, d0⟩ := hl2.out.str h2
          have hsn := hide (show acc (j + 1) = addV (acc j) v by rw [HACC.out, HACC.out]; exact foldV_snoc hx2 l)
          have HCon := hide (contains_str (acc j) v A3 (acc j).length c3 wr ho3.out.lat (by omega))
          clear hx2
          cases hm : memB (acc j) v with
          | true =>
            have Hm := hide hm; clear hm
            go_wp2_with ((refine HCon.out.mono ?_); rintro e w2 ⟨rfl, rfl⟩; rw [Hm.out])
            go_roundw
            case rel => exact ⟨j + 1, A3, c3, by omega, by go_num, by rw [hsn.out, addV, Hm.out]; rfl, by rw [Hid, hsn.out, addV, Hm.out]; exact ho3.out, hl2.out, hap.out, hsz.out, hw3.out⟩
            case measure => simp [intOf]; omega
          | false =>
            have Hm := hide hm; clear hm
            have Hsrc := hide (sl_lit wr [.string v] 9 1 1 rfl)
            have HO := hide ho3.out.2
            go_wp2_with (first | ((refine HCon.out.mono ?_); rintro e w2 ⟨rfl, rfl⟩; rw [Hm.out]) | (at_builtin; refine wpList_append_sl rfl (.tmp 26) (.tmp 28) _ rfl 9 i0 _ 1 16 Try.underlying22 hi0 hz0 hz1 hz2 rfl (by omega) w (hw3.out.trans (Ext.alloc _ _)) _ (acc j).length (strC (acc j)) rfl (HO.out.alloc _) _ 1 1 [.string v] rfl Hsrc.out (fun v h => by obtain rfl := List.mem_singleton.1 h; rfl) (by unfold maxLen; omega) (by omega) ?_; intro A8 c8 w8 own8 E8 G8 L8))
            go_roundw
            case rel =>
              refine ⟨j + 1, A8, c8, by omega, by go_num, by rw [hsn.out, addV, Hm.out]; simp, by rw [Hid, hsn.out, addV, Hm.out]; simp only [Bool.false_eq_true, if_false, List.length_append, List.length_cons, List.length_nil]; exact ⟨by simp, by rw [strC_snoc]; exact own8.out⟩, ?_, ?_, ?_, E8.out⟩
              · exact (hl2.out.ext RS.stab (Ext.alloc _ _)).grownS G8.out hap.out
              · exact hap.out.grown ((HB2.out.ext hsz.out).ext (Ext.alloc _ _).size) L8.out
              · exact Nat.le_trans hsz.out (Nat.le_trans (Ext.alloc _ _).size G8.out.size)
            case measure => simp [intOf]; omega
        · have e : vs.take j = vs := List.take_of_length_le (by omega)
          have e2 := hide (show acc j = varsTo as_ (i + 1) by rw [HACC.out, e, hs.out])
          have hvl2 : (acc j).length ≤ (i + 1) * 1048576 := by rw [Nat.add_mul]; omega
          go_wp2_with fail
          go_roundw
          case rel => exact ⟨i + 1, A3, c3, by omega, by go_num, by rw [e2.out], by rw [← e2.out]; exact hvl2, by rw [← e2.out]; exact ho3.out, hw3.out⟩
          case measure => simp [intOf]; omega
    · go_wp2_with fail
      go_ret
      have e : as_.take i = as_ := List.take_of_length_le (by have := hm.out; omega)
      have e2 : varsTo as_ i = varsQ ⟨nm, hd, as_⟩ := by unfold varsTo varsQ; rw [e]
      rw [e2] at ho ⊢
      exact ⟨A', c', rfl, ho.out, hw.out⟩
end Go.Proofs.Ythjpcnceppmnmaa
