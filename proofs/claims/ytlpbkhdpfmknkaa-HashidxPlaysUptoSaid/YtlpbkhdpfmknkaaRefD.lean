/-
  The document's index: Delete, Clear.
-/
import Derived.Test.YtlpbkhdpfmknkaaRefZ
import Derived.BigRegion
namespace Go.Proofs.Ytlpbkhdpfmknkaa
open Go.RowKit

/-- so far the elements have moved up -/
def shD {α : Type} (L : List α) (p j : Nat) : List α := (L.eraseIdx p).take j ++ L.drop j
theorem shD_start {α : Type} (L : List α) (p : Nat) : shD L p p = L := by
  unfold shD
  rw [List.eraseIdx_eq_take_drop_succ]
  rcases Nat.lt_or_ge p L.length with h | h
  · rw [List.take_append, List.take_take, Nat.min_self]
    have : (L.take p).length = p := by simp; omega
    rw [this, Nat.sub_self, List.take_zero, List.append_nil, List.take_append_drop]
  · rw [List.take_of_length_le h, List.drop_of_length_le (by omega), List.append_nil, List.take_of_length_le h, List.drop_of_length_le h, List.append_nil]
theorem erase_len {α : Type} {L : List α} {p : Nat} (hp : p < L.length) : (L.eraseIdx p).length = L.length - 1 := List.length_eraseIdx_of_lt hp
theorem shD_len {α : Type} {L : List α} {p j : Nat} (hp : p < L.length) (hj : j < L.length) : (shD L p j).length = L.length := by
  simp only [shD, List.length_append, List.length_take, List.length_drop, erase_len hp]; omega
theorem shD_get {α : Type} {L : List α} {p j : Nat} (hp : p < L.length) (hj : j + 1 < L.length) {s : α} (hs : L[j + 1]? = some s) : (shD L p j)[j + 1]? = some s := by
  have hl : ((L.eraseIdx p).take j).length = j := by rw [List.length_take, erase_len hp]; omega
  rw [shD, List.getElem?_append_right (by omega), hl, List.getElem?_drop, ← hs]
  congr 1
  omega
theorem shD_step {α : Type} {L : List α} {p j : Nat} (hp : p < L.length) (hpj : p ≤ j) (hj : j + 1 < L.length) {s : α} (hs : L[j + 1]? = some s) : (shD L p j).set j s = shD L p (j + 1) := by
  have hl : ((L.eraseIdx p).take j).length = j := by rw [List.length_take, erase_len hp]; omega
  have hje : j < (L.eraseIdx p).length := by rw [erase_len hp]; omega
  obtain ⟨_, rfl⟩ := List.getElem?_eq_some_iff.1 hs
  have he : (L.eraseIdx p)[j] = L[j + 1] := by rw [List.getElem_eraseIdx_of_ge _ hpj]
  unfold shD
  rw [List.set_append_right _ _ (by omega), hl, Nat.sub_self, List.drop_eq_getElem_cons (show j < L.length by omega), List.set_cons_zero, List.take_succ_eq_append_getElem hje, he, List.append_assoc]
  rfl
theorem shD_end {α : Type} {L : List α} {p j : Nat} (hp : p < L.length) (hj : j + 1 = L.length) : (shD L p j).take j = L.eraseIdx p := by
  have hl : ((L.eraseIdx p).take j).length = j := by rw [List.length_take, erase_len hp]; omega
  unfold shD
  rw [List.take_append_of_le_length (by omega), List.take_take, Nat.min_self, List.take_of_length_le (by rw [erase_len hp]; omega)]

theorem own_cut {w : World} {e : TypeId} {n c m : Nat} {A : Option Addr} {xs : List Value} (h : w.ownsRow 0 e 1 (.slice A n c) n xs) (hm : m ≤ n) (hA : A ≠ none) : w.ownsRow 0 e 1 (.slice A m c) m (xs.take m) := by
  have hl : xs.length = n := by simpa using h.1
  refine ⟨by simp; omega, ?_⟩
  rcases h.2 with ⟨he, _⟩ | ⟨g, cap, cur, hv, h2, h3, h4, h5, h6, h7⟩
  · injection he with he
    exact absurd he hA
  · injection hv with e1 e2 e3
    subst e1; subst e3
    refine .inr ⟨g, c, cur, rfl, h2, h3, by omega, h5, h6, ?_⟩
    rw [Nat.mul_one] at h7 ⊢
    have : cur.toList.take m = (cur.toList.take n).take m := by rw [List.take_take, Nat.min_eq_left hm]
    rw [this, h7]
/-- both lists are cut -/
theorem RRaw.cut {w : World} {R : Nat → Prop} {d most probes a m g k : Nat} {L : List ByteArray} {N : List Int} (h : RRaw w R d most probes (some ⟨g, 0, none⟩) a (some ⟨k, 0, none⟩) m L N) (n : Nat) (hn : n ≤ L.length) (hn2 : n ≤ N.length) :
    RRaw ((w.setCell ⟨d, 2, none⟩ (.slice (some ⟨g, 0, none⟩) n a)).setCell ⟨d, 3, none⟩ (.slice (some ⟨k, 0, none⟩) n m)) R d most probes (some ⟨g, 0, none⟩) a (some ⟨k, 0, none⟩) m (L.take n) (N.take n) ∧ Chg R w ((w.setCell ⟨d, 2, none⟩ (.slice (some ⟨g, 0, none⟩) n a)).setCell ⟨d, 3, none⟩ (.slice (some ⟨k, 0, none⟩) n m)) := by
  have hc : Chg (fun x => x = d) w ((w.setCell ⟨d, 2, none⟩ (.slice (some ⟨g, 0, none⟩) n a)).setCell ⟨d, 3, none⟩ (.slice (some ⟨k, 0, none⟩) n m)) := (chg_one w ⟨d, 2, none⟩ _).setCell (p := ⟨d, 3, none⟩) (.inl rfl) _
  have h1 : (L.take n).length = n := by simp; omega
  have h2 : (N.take n).length = n := by simp; omega
  have hk := own_cut h.ks hn (by simp)
  have hv := own_cut h.ns hn2 (by simp)
  rw [show (txtC L).take n = txtC (L.take n) by simp [txtC, List.map_take]] at hk
  rw [show (numC N).take n = numC (N.take n) by simp [numC, List.map_take]] at hv
  refine ⟨⟨?_, ?_, ?_, h.inD, h.inK, h.inN, fun x hx => Nat.lt_of_lt_of_le (h.old x hx) hc.size⟩, hc.mono fun x hx _ => by rw [hx]; exact h.inD⟩
  · rw [h1, h2]; exact (h.blk.set_ 2 _).set_ 3 _
  · rw [h1]; exact hc.own hk fun x hx e => own_type hk h.blk (by decide) (by rw [hx, e])
  · rw [h2]; exact hc.own hv fun x hx e => own_type hv h.blk (by decide) (by rw [hx, e])
/-- both lists are gone -/
theorem RRaw.none_ {w : World} {R : Nat → Prop} {d most probes a m : Nat} {A M : Option Addr} {L : List ByteArray} {N : List Int} (h : RRaw w R d most probes A a M m L N) :
    RRaw ((w.setCell ⟨d, 2, none⟩ (.slice none 0 0)).setCell ⟨d, 3, none⟩ (.slice none 0 0)) R d most probes none 0 none 0 [] [] ∧ Chg R w ((w.setCell ⟨d, 2, none⟩ (.slice none 0 0)).setCell ⟨d, 3, none⟩ (.slice none 0 0)) := by
  have hc : Chg (fun x => x = d) w ((w.setCell ⟨d, 2, none⟩ (.slice none 0 0)).setCell ⟨d, 3, none⟩ (.slice none 0 0)) := (chg_one w ⟨d, 2, none⟩ _).setCell (p := ⟨d, 3, none⟩) (.inl rfl) _
  exact ⟨⟨(h.blk.set_ 2 _).set_ 3 _, World.ownsRow_nil _ _ _ _, World.ownsRow_nil _ _ _ _, h.inD, fun x hx => (by cases hx), fun x hx => (by cases hx), fun x hx => Nat.lt_of_lt_of_le (h.old x hx) hc.size⟩, hc.mono fun x hx _ => by rw [hx]; exact h.inD⟩

set_option maxRecDepth 100000 in
theorem rclear_any {w : World} {R : Nat → Prop} {d most probes a m : Nat} {A M : Option Addr} {L : List ByteArray} {N : List Int} (h : RIx w R d most probes A a M m L N) :
    Calls Try.prog 27 #[.pointer (some ⟨d, 0, none⟩)] w fun e w' => e = .returned (.tuple #[]) ∧ RIx w' R d most probes none 0 none 0 [] [] ∧ Chg R w w' := by
  have HP := hide h.toRRaw.none_
  have a2 : w.cell? ⟨d, 2, none⟩ = some (.slice A L.length a) := h.blk.cell 2
  have f2 : w.frozen? ⟨d, 2, none⟩ = false := h.blk.frozen 2
  have a3 : w.cell? ⟨d, 3, none⟩ = some (.slice M N.length m) := h.blk.cell 3
  have f3 : w.frozen? ⟨d, 3, none⟩ = false := h.blk.frozen 3
  have HM := hide h.most
  clear h
  go_enter Try.func27, Try.ntmps27
  go_wp2_with fail
  go_end0
  exact ⟨rfl, ⟨HP.out.1, rfl, List.Pairwise.nil, fun s hs => (by cases hs), Nat.zero_le _, HM.out.2⟩, HP.out.2⟩

set_option maxHeartbeats 2000000 in
set_option maxRecDepth 100000 in
theorem rdelete_any {w : World} {R : Nat → Prop} {d most probes a m : Nat} {A M : Option Addr} {L : List ByteArray} {N : List Int} (h : RIx w R d most probes A a M m L N) (hpr : probes ≤ 4611686018427387904) (key : ByteArray) (hk : key.size ≤ 1048576) :
    Calls Try.prog 25 #[.pointer (some ⟨d, 0, none⟩), .string key] w fun e w' => ∃ (v : Int) (b : Bool) (L' : List ByteArray) (N' : List Int), e = .returned (.tuple #[.int .i64 v, .bool b]) ∧
      ((b = true ∧ ∃ p : Nat, L[p]? = some key ∧ N[p]? = some v ∧ L' = L.eraseIdx p ∧ N' = N.eraseIdx p) ∨ (b = false ∧ v = 0 ∧ key ∉ L ∧ L' = L ∧ N' = N)) ∧ RIx w' R d most (probes + 1) A a M m L' N' ∧ Chg R w w' := by
  have HP := hide h.probe
  have HA := hide (at_any HP.out.1 key hk)
  have a1 : w.cell? ⟨d, 1, none⟩ = some (.int .i64 probes) := h.blk.cell 1
  have f1 : w.frozen? ⟨d, 1, none⟩ = false := h.blk.frozen 1
  clear h
  go_enter Try.func25, Try.ntmps25
  go_wp2_with fail
  refine HA.out.mono ?_
  rintro e w1 ⟨r, rfl, hr, x1⟩
  have HI := hide (HP.out.1.ext x1)
  have HC := hide (HP.out.2.trans' (Chg.of x1))
  clear x1 a1 f1
  rcases hr with ⟨p, rfl, hp⟩ | ⟨rfl, hno⟩
  · obtain ⟨v, hv, hpn⟩ := HI.out.numAt hp
    have hpl : p < L.length := (List.getElem?_eq_some_iff.1 hp).1
    obtain ⟨g5, rfl, c0, _⟩ := HI.out.num hv
    obtain ⟨g3, rfl, _, _⟩ := HI.out.key hp
    have a3 : w1.cell? ⟨d, 3, none⟩ = some (.slice (some ⟨g5, 0, none⟩) N.length m) := HI.out.blk.cell 3
    have HV := hide (And.intro hp hv)
    have HLN := hide HI.out.len
    have HI0 := HI
    have hN : N.length ≤ 1048576 := by have := HI.out.len; have := HI.out.most; omega
    have hL : L.length ≤ 1048576 := by have := HI.out.most; omega
    clear hp hv
    go_wp2_with fail
    clear a3 c0
    go_loopw [8] (fun s8 w' => ∃ j : Nat, p ≤ j ∧ j < L.length ∧ s8 = .int .i64 j ∧ Hid (RRaw w' R d most (probes + 1) (some ⟨g3, 0, none⟩) a (some ⟨g5, 0, none⟩) m (shD L p j) (shD N p j)) ∧ Hid (Chg R w w')) (fun s8 _ => L.length - (intOf s8).toNat)
    case atStart => exact ⟨p, Nat.le_refl _, hpl, rfl, by rw [shD_start, shD_start]; exact HI.out.toRRaw, HC.out⟩
    case round =>
      obtain ⟨j, hpj, hjl, rfl, hI, hC⟩ := hrel
      have hz := shD_len hpl hjl
      have hjn : j < N.length := by have := HLN.out; omega
      have hy := shD_len hpn hjn
      have a2 : wr.cell? ⟨d, 2, none⟩ = some (.slice (some ⟨g3, 0, none⟩) (shD L p j).length a) := hI.out.blk.cell 2
      have a3 : wr.cell? ⟨d, 3, none⟩ = some (.slice (some ⟨g5, 0, none⟩) (shD N p j).length m) := hI.out.blk.cell 3
      rw [hz] at a2
      rw [hy] at a3
      have HZ := hide hz; have HY := hide hy
      clear hz hy HI HC
      by_cases hj : j + 1 < L.length
      · have hs := List.getElem?_eq_getElem hj
        have hjn1 : j + 1 < N.length := by have := HLN.out; omega
        have hu := List.getElem?_eq_getElem hjn1
        obtain ⟨_, e, b0, _⟩ := hI.out.key (shD_get hpl hj hs)
        injection e with e; injection e with e; subst e
        obtain ⟨_, e, b1, _⟩ := hI.out.num (shD_get hpn hjn1 hu)
        injection e with e; injection e with e; subst e
        have hkL1 : j < (shD L p j).length := by rw [HZ.out]; omega
        have hkN1 : j < (shD N p j).length := by rw [HY.out]; omega
        obtain ⟨_, e, d0, d1⟩ := hI.out.key (List.getElem?_eq_getElem hkL1)
        injection e with e; injection e with e; subst e
        obtain ⟨_, e, d2, d3⟩ := hI.out.num (List.getElem?_eq_getElem hkN1)
        injection e with e; injection e with e; subst e
        have HS := hide hs; have HU := hide hu
        clear hs hu
        generalize L[j + 1] = s' at *
        generalize N[j + 1] = u' at *
        have hgg := hI.out.apart
        have hgg2 := Ne.symm hgg
        have hgd : d ≠ g3 := fun e => own_type hI.out.ks hI.out.blk (by decide) (by rw [e]; rfl)
        have hgd2 := Ne.symm hgd
        have hgn : d ≠ g5 := fun e => own_type hI.out.ns hI.out.blk (by decide) (by rw [e]; rfl)
        have hgn2 := Ne.symm hgn
        have HS8 := hide (hI.out.setKey hkL1 s')
        have HN8 := hide (HS8.out.1.setNum hkN1 u')
        have HI9 := hide (show RRaw (((wr.setCell ⟨g3, j, none⟩ (.string s')).setCell ⟨g5, j, none⟩ (.int .i64 u')).drew) R d most (probes + 1) (some ⟨g3, 0, none⟩) a (some ⟨g5, 0, none⟩) m (shD L p (j + 1)) (shD N p (j + 1)) from by
          have := HN8.out.1.ext (Ext.drew _)
          rwa [shD_step hpl hpj hj HS.out, shD_step hpn hpj hjn1 HU.out] at this)
        have HC9 := hide (show Chg R w (((wr.setCell ⟨g3, j, none⟩ (.string s')).setCell ⟨g5, j, none⟩ (.int .i64 u')).drew) from ((hC.out.trans' HS8.out.2).trans' HN8.out.2).trans' (Chg.of (Ext.drew _)))
        have hk0 : (0 : Int) ≤ (j : Int) := by omega
        have hk1 : (j : Int) < (L.length : Int) := by omega
        have hk2 : (j : Int) < (N.length : Int) := by omega
        have hk3 : (j : Int) + 1 < (L.length : Int) := by omega
        have hk4 : (j : Int) + 1 < (N.length : Int) := by omega
        have hk5 : (0 : Int) ≤ (j : Int) + 1 := by omega
        have hwk : IntKind.i64.wrap ((j : Int) + 1) = (j : Int) + 1 := IntWalk.i64_in _ (by omega)
        have hfar : ∀ (w : World) (v : Value), (w.setCell ⟨g3, j, none⟩ v).cell? ⟨g3, j + 1, none⟩ = w.cell? ⟨g3, j + 1, none⟩ := fun w v => World.cell?_setCell_other w _ _ v (by intro e; injection e with _ e; omega)
        have hfar2 : ∀ (w : World) (v : Value), (w.setCell ⟨g5, j, none⟩ v).cell? ⟨g5, j + 1, none⟩ = w.cell? ⟨g5, j + 1, none⟩ := fun w v => World.cell?_setCell_other w _ _ v (by intro e; injection e with _ e; omega)
        clear HS8 HN8
        go_wp2_with fail
        go_region_held3 (fun w' => w'.cell? ⟨d, 2, none⟩ = some (.slice (some ⟨g3, 0, none⟩) L.length a) ∧ w'.cell? ⟨d, 3, none⟩ = some (.slice (some ⟨g5, 0, none⟩) N.length m) ∧ w'.cell? ⟨g3, j + 1, none⟩ = some (.string s') ∧ w'.cell? ⟨g5, j + 1, none⟩ = some (.int .i64 u')) (go_keep) (fail)
        generalize ((wr.setCell ⟨g3, j, none⟩ (.string s')).setCell ⟨g5, j, none⟩ (.int .i64 u')).drew = W9 at *
        clear hfar hfar2 a2 a3 b0 b1 d0 d1 d2 d3 hgg hgg2 hgd hgd2 hgn hgn2
        go_wp2_with fail
        go_roundw
        case rel => exact ⟨j + 1, by omega, hj, by go_num, HI9.out, HC9.out⟩
        case measure => simp [intOf]; omega
      · have hjL : L.length = j + 1 := by omega
        have hjN : N.length = j + 1 := by have := HLN.out; omega
        have hend := hI.out.cut j (by rw [HZ.out]; omega) (by rw [HY.out]; omega)
        rw [shD_end hpl hjL.symm, shD_end hpn hjN.symm] at hend
        have hcap1 : (j : Int) ≤ (a : Int) := by
          rcases hI.out.ks.2 with ⟨hv, _⟩ | ⟨_, cap, _, hv, _, _, h4, _⟩
          · cases hv
          · injection hv with _ _ e
            rw [HZ.out] at h4
            omega
        have hcap2 : (j : Int) ≤ (m : Int) := by
          rcases hI.out.ns.2 with ⟨hv, _⟩ | ⟨_, cap, _, hv, _, _, h4, _⟩
          · cases hv
          · injection hv with _ _ e
            rw [HY.out] at h4
            omega
        have f2 : wr.frozen? ⟨d, 2, none⟩ = false := hI.out.blk.frozen 2
        have f3 : wr.frozen? ⟨d, 3, none⟩ = false := hI.out.blk.frozen 3
        rw [hjL] at a2
        rw [hjN] at a3
        have HR := hide (show RIx (((wr.setCell ⟨d, 2, none⟩ (.slice (some ⟨g3, 0, none⟩) j a)).setCell ⟨d, 3, none⟩ (.slice (some ⟨g5, 0, none⟩) j m)).drew) R d most (probes + 1) (some ⟨g3, 0, none⟩) a (some ⟨g5, 0, none⟩) m (L.eraseIdx p) (N.eraseIdx p) from ⟨hend.1.ext (Ext.drew _), by rw [erase_len hpl, erase_len hpn, HLN.out], HI0.out.rises.erase p, fun s hs => HI0.out.small s (List.mem_of_mem_eraseIdx hs), by rw [erase_len hpl]; have := HI0.out.most; omega⟩)
        have HCR := hide (show Chg R w (((wr.setCell ⟨d, 2, none⟩ (.slice (some ⟨g3, 0, none⟩) j a)).setCell ⟨d, 3, none⟩ (.slice (some ⟨g5, 0, none⟩) j m)).drew) from (hC.out.trans' hend.2).trans' (Chg.of (Ext.drew _)))
        have HJL := hide hjL
        have hk0 : (0 : Int) ≤ (j : Int) := by omega
        have hwk : IntKind.i64.wrap (j : Int) = (j : Int) := IntWalk.i64_in _ (by omega)
        clear hend hjN
        have hnn : ¬ ((j : Int) + 1 < (L.length : Int)) := by omega
        clear hjL
        go_wp2_with fail
        go_region
        generalize ((wr.setCell ⟨d, 2, none⟩ (.slice (some ⟨g3, 0, none⟩) j a)).setCell ⟨d, 3, none⟩ (.slice (some ⟨g5, 0, none⟩) j m)).drew = W9 at *
        clear a2 a3 f2 f3
        go_wp2_with fail
        go_ret2
        exact ⟨v, true, _, _, rfl, .inl ⟨rfl, p, HV.out.1, HV.out.2, rfl, rfl⟩, HR.out, HCR.out⟩
  · have HNO := hide hno
    clear hno
    go_wp2_with fail
    go_ret2
    exact ⟨0, false, L, N, rfl, .inr ⟨rfl, rfl, HNO.out, rfl, rfl⟩, HI.out, HC.out⟩
end Go.Proofs.Ytlpbkhdpfmknkaa
