/-
  hashidx: a place of the table is written; Delete.
-/
import Derived.Test.YtlpbkhdpfmknkaaHidG
namespace Go.Proofs.Ytlpbkhdpfmknkaa
open Go.RowKit

theorem set_past {α : Type} : ∀ (l m : List α) (i : Nat) (v : α), (l ++ m).set (l.length + i) v = l ++ m.set i v
  | [], m, i, v => by simp
  | x :: l, m, i, v => by
    rw [List.cons_append, List.length_cons, show l.length + 1 + i = (l.length + i) + 1 by omega, List.set_cons_succ, set_past l m i v]; rfl
theorem tabC_set : ∀ (T : List Pl) (Ks : List Value) (i : Nat) (p : Pl) (K : Value), Ks.length = T.length → i < T.length →
    tabC (T.set i p) (Ks.set i K) = (((tabC T Ks).set (i * 3) (.int .u8 (p.st : Int))).set (i * 3 + 1) K).set (i * 3 + 2) (.int .i64 p.num)
  | [], _, _, _, _, _, h => by simp at h
  | _ :: _, [], _, _, _, h, _ => by simp at h
  | q :: T, L :: Ks, 0, p, K, _, _ => rfl
  | q :: T, L :: Ks, i + 1, p, K, h1, h2 => by
    simp only [List.set_cons_succ, tabC]
    rw [tabC_set T Ks i p K (by simpa using h1) (by simpa using h2)]
    have e : (plC q L).length = 3 := rfl
    rw [show (i + 1) * 3 = (plC q L).length + i * 3 by rw [e]; omega, show (plC q L).length + i * 3 + 1 = (plC q L).length + (i * 3 + 1) by omega, show (plC q L).length + i * 3 + 2 = (plC q L).length + (i * 3 + 2) by omega, set_past, set_past, set_past]
/-- three cells of a place are written -/
def setPl (w : World) (tb i : Nat) (p : Pl) (K : Value) : World := ((w.setCell ⟨tb, i * 3, none⟩ (.int .u8 (p.st : Int))).setCell ⟨tb, i * 3 + 1, none⟩ K).setCell ⟨tb, i * 3 + 2, none⟩ (.int .i64 p.num)
theorem setPl_chg (w : World) (tb i : Nat) (p : Pl) (K : Value) : Chg (fun g => g = tb) w (setPl w tb i p K) :=
  Chg.setCell (B := fun g => g = tb) (Chg.setCell (B := fun g => g = tb) (Chg.setCell (B := fun g => g = tb) (Chg.refl _ w) (p := ⟨tb, i * 3, none⟩) (.inl rfl) _) (p := ⟨tb, i * 3 + 1, none⟩) (.inl rfl) _) (p := ⟨tb, i * 3 + 2, none⟩) (.inl rfl) _
theorem TabAt.put {w : World} {B : Nat → Prop} {tb : Nat} {T : List Pl} {Ks : List Value} (h : TabAt w B tb T Ks) {i : Nat} (hi : i < T.length) (p : Pl) (K : Value) (hK : OwnKey w B K p.key) : TabAt (setPl w tb i p K) B tb (T.set i p) (Ks.set i K) := by
  have hc := setPl_chg w tb i p K
  refine ⟨?_, by rw [List.length_set, List.length_set]; exact h.len, fun j q L h1 h2 => ?_, h.inB⟩
  · rw [tabC_set T Ks i p K h.len hi]
    have := ((h.blk.set_ (i * 3) (.int .u8 (p.st : Int))).set_ (i * 3 + 1) K).set_ (i * 3 + 2) (.int .i64 p.num)
    simpa [setPl] using this
  · have hkeep : ∀ {L : Value} {k : List UInt8}, OwnKey w B L k → OwnKey (setPl w tb i p K) B L k := fun ho => ho.keep hc fun A n c e a ha => ho.ne h.blk (by decide) A n c e a ha
    by_cases hj : i = j
    · subst hj
      rw [List.getElem?_set_self hi] at h1
      rw [List.getElem?_set_self (by rw [h.len]; exact hi)] at h2
      injection h1 with h1
      injection h2 with h2
      subst h1; subst h2
      exact hkeep hK
    · rw [List.getElem?_set_ne hj] at h1 h2
      exact hkeep (h.keys j q L h1 h2)
theorem OwnKey.nil (w : World) (B : Nat → Prop) : OwnKey w B (.slice none 0 0) [] := ⟨none, 0, 0, rfl, World.ownsRow_nil _ _ _ _, fun a ha => by cases ha⟩
theorem IxAt.put {w : World} {B : Nat → Prop} {x tb most size marks probes : Nat} {T : List Pl} {Ks : List Value} (h : IxAt w B x tb most size marks probes T Ks) (hne : x ≠ tb) {i : Nat} (hi : i < T.length) (p : Pl) (K : Value) (hK : OwnKey w B K p.key) : IxAt (setPl w tb i p K) B x tb most size marks probes (T.set i p) (Ks.set i K) := by
  refine ⟨?_, h.tab.put hi p K hK, by rw [List.length_set]; exact h.pow, h.inB⟩
  rw [List.length_set]
  exact (setPl_chg w tb i p K).blk h.blk hne

set_option maxRecDepth 100000 in
theorem delete_any {w : World} {B : Nat → Prop} {x most probes : Nat} {E : List (List UInt8 × Int)} (h : HIx w B x most probes E) (hp : probes ≤ 4611686018427387904) (key : List UInt8) (A : Option Addr) (n c : Nat) (hk : KeyAt w A n key) (ha : Aside B A) (hn : n ≤ 4611686018427387904) :
    Calls Try.prog 11 #[.pointer (some ⟨x, 0, none⟩), .slice A n c] w fun e w' => ∃ r : Option Int, e = .returned (.tuple #[.int .i64 (r.getD 0), .bool r.isSome]) ∧ LookAt E key r ∧
      (∃ E', (match r with | some v => List.Perm E ((key, v) :: E') | none => E' = E) ∧ HIx w' B x most (probes + 1) E') ∧ Chg B w w' := by
  obtain ⟨tb, T, Ks, hI, hG, hE, h1, h2, h3, hne⟩ := h.at_
  have hkx : KeyAt (w.setCell ⟨x, 3, none⟩ (.int .i64 ((probes : Int) + 1))) A n key := (chg_one w _ _).key hk fun a he hx => ha a he (by rw [hx]; exact hI.inB)
  have HF := hide (find_any key A n c _ B x tb most _ _ _ T Ks (hI.probe hne) hkx hG.st hn)
  have HI := hide (hI.probe hne)
  have a3 : w.cell? ⟨x, 3, none⟩ = some (.int .i64 probes) := hI.blk.cell 3
  have f3 : w.frozen? ⟨x, 3, none⟩ = false := hI.blk.frozen 3
  have HC := hide (show Chg B w (w.setCell ⟨x, 3, none⟩ (.int .i64 ((probes : Int) + 1))) from (Chg.refl _ _).setCell (.inl hI.inB) _)
  have hm := h.most
  have HO := hide h.old
  have HE := hide hE
  rcases find_spec hG key with ⟨i, p, hf, hpi, hp1, hpk⟩ | ⟨f, hf, hfree, hno⟩
  · rw [hf] at HF
    have HR := hide (show LookAt E key (some p.num) from ⟨fun v hv => by injection hv with hv; subst hv; exact hE.mem_iff.1 (mem_ents.2 ⟨i, p, hpi, hp1, hpk, rfl⟩), fun hv => by cases hv⟩)
    have HP := hide hpi
    have hil : i < T.length := (List.getElem?_eq_some_iff.1 hpi).1
    obtain ⟨hG2, R, r1, r2, r3⟩ := turn_good (p := ⟨2, [], 0⟩) hG hpi hp1 (.inr rfl)
    have hER : List.Perm E ((key, p.num) :: R) := hpk ▸ (hE.symm.trans r1)
    have hEl := hER.length_eq
    rw [List.length_cons] at hEl
    have r3 : goneN (T.set i ⟨2, [], 0⟩) = goneN T + 1 := r3
    have hroom := hG.room
    have hW : HGood (T.set i ⟨2, [], 0⟩) ∧ List.Perm (ents (T.set i ⟨2, [], 0⟩)) R ∧ 4 * (R.length + goneN (T.set i ⟨2, [], 0⟩)) ≤ 3 * (T.set i ⟨2, [], 0⟩).length ∧ (T.set i ⟨2, [], 0⟩).length ≤ 4 * most + 8 ∧ (∀ p ∈ T.set i ⟨2, [], 0⟩, p.key.length ≤ 4096) ∧ x ≠ tb :=
      ⟨hG2, r2, by rw [r3, List.length_set]; omega, by rw [List.length_set]; exact h2, fun q hq => by
        rcases List.mem_or_eq_of_mem_set hq with hq | rfl
        · exact h3 q hq
        · exact Nat.zero_le _, hne⟩
    have HW := hide (And.intro hW (And.intro hER r3))
    have hinB := hide (And.intro hI.inB hI.tab.inB)
    have hgl : goneN T ≤ T.length := by omega
    have hTl : T.length ≤ 4194400 := by omega
    have HEl := hide hEl
    clear h hk hkx hI hE hf hpi hp1 hpk hG h1 h2 h3 ha hne hG2 r1 r2 r3 hW hER hroom hEl
    go_enter Try.func11, Try.ntmps11
    go_wp2_with fail
    refine HF.out.mono ?_
    rintro e w1 ⟨rfl, x1⟩
    have X1 := hide x1
    have HI1 := hide (HI.out.ext x1)
    obtain ⟨A5, n5, c5, b0, b1, b2, _⟩ := HI1.out.tab.at_ HP.out
    have a4 : w1.cell? ⟨x, 4, none⟩ = some (.slice (some ⟨tb, 0, none⟩) T.length T.length) := HI1.out.blk.cell 4
    have g0 : w1.frozen? ⟨tb, i * 3, none⟩ = false := HI1.out.tab.blk.frozen _
    have g1 : w1.frozen? ⟨tb, i * 3 + 1, none⟩ = false := HI1.out.tab.blk.frozen _
    have g2 : w1.frozen? ⟨tb, i * 3 + 2, none⟩ = false := HI1.out.tab.blk.frozen _
    clear x1 a3 f3
    simp only [frV]
    have hi0 : ¬ (i : Int) < 0 := by omega
    go_upto_region 7 with fail
    have HI2 := hide (show IxAt (((w1.setCell ⟨tb, i * 3, none⟩ (.int .u8 2)).setCell ⟨tb, i * 3 + 1, none⟩ (.slice none 0 0)).setCell ⟨tb, i * 3 + 2, none⟩ (.int .i64 0)) B x tb most E.length (goneN T) (probes + 1) (T.set i ⟨2, [], 0⟩) (Ks.set i (.slice none 0 0)) from HI1.out.put HW.out.1.2.2.2.2.2 hil ⟨2, [], 0⟩ _ (OwnKey.nil _ _))
    have HC2 := hide (show Chg B w (((w1.setCell ⟨tb, i * 3, none⟩ (.int .u8 2)).setCell ⟨tb, i * 3 + 1, none⟩ (.slice none 0 0)).setCell ⟨tb, i * 3 + 2, none⟩ (.int .i64 0)) from (((HC.out.trans' (Chg.of X1.out)).setCell (.inl hinB.out.2) _).setCell (.inl hinB.out.2) _).setCell (.inl hinB.out.2) _)
    generalize hW2 : ((w1.setCell ⟨tb, i * 3, none⟩ (.int .u8 2)).setCell ⟨tb, i * 3 + 1, none⟩ (.slice none 0 0)).setCell ⟨tb, i * 3 + 2, none⟩ (.int .i64 0) = W2 at *
    clear hW2 b0 b1 b2 a4 g0 g1 g2
    have a1 : W2.cell? ⟨x, 1, none⟩ = some (.int .i64 E.length) := HI2.out.blk.cell 1
    have f1 : W2.frozen? ⟨x, 1, none⟩ = false := HI2.out.blk.frozen 1
    have he1 := HEl.out
    go_upto_region 8 with fail
    have HI3 := hide (HI2.out.setSize HW.out.1.2.2.2.2.2 R.length (R.length : Int) rfl)
    have HC3 := hide (HC2.out.setCell (p := ⟨x, 1, none⟩) (.inl hinB.out.1) (.int .i64 (R.length : Int)))
    generalize hW3 : W2.setCell ⟨x, 1, none⟩ (.int .i64 (R.length : Int)) = W3 at *
    clear hW3 a1 f1
    have a2 : W3.cell? ⟨x, 2, none⟩ = some (.int .i64 (goneN T)) := HI3.out.blk.cell 2
    have f2 : W3.frozen? ⟨x, 2, none⟩ = false := HI3.out.blk.frozen 2
    go_wp2_with fail
    go_ret2
    have hI4 := HI3.out.setMarks HW.out.1.2.2.2.2.2 (goneN (T.set i ⟨2, [], 0⟩)) ((goneN T : Int) + 1) (by rw [HW.out.2.2]; omega)
    have hC4 := HC3.out.setCell (p := ⟨x, 2, none⟩) (.inl hinB.out.1) (.int .i64 ((goneN T : Int) + 1))
    exact ⟨some p.num, rfl, HR.out, ⟨R, HW.out.2.1, ⟨⟨tb, _, _, hI4, HW.out.1.1, HW.out.1.2.1, HW.out.1.2.2.1, HW.out.1.2.2.2.1, HW.out.1.2.2.2.2.1, HW.out.1.2.2.2.2.2⟩, ⟨by omega, hm.2⟩, fun b hb => Nat.lt_of_lt_of_le (HO.out b hb) hC4.size⟩⟩, hC4⟩
  · rw [hf] at HF
    have HR := hide (show LookAt E key none from ⟨fun v hv => (by cases hv), fun _ v hv => (mem_ents.1 (hE.mem_iff.2 hv)).elim fun i hi => hi.elim fun p hp => hno i p hp.1 hp.2.1 hp.2.2.1⟩)
    have HW := hide (And.intro hG (And.intro h1 (And.intro h2 (And.intro h3 hne))))
    clear h hk hkx hI hE hf hfree hno hG h1 h2 h3 ha hne
    go_enter Try.func11, Try.ntmps11
    go_wp2_with fail
    refine HF.out.mono ?_
    rintro e w1 ⟨rfl, x1⟩
    have X1 := hide x1
    clear x1 a3 f3
    simp only [frV]
    go_wp2_with fail
    go_ret2
    have hC := HC.out.trans' (Chg.of X1.out)
    exact ⟨none, rfl, HR.out, ⟨E, rfl, ⟨⟨tb, T, Ks, HI.out.ext X1.out, HW.out.1, HE.out, HW.out.2.1, HW.out.2.2.1, HW.out.2.2.2.1, HW.out.2.2.2.2⟩, hm, fun b hb => Nat.lt_of_lt_of_le (HO.out b hb) hC.size⟩⟩, hC⟩
end Go.Proofs.Ytlpbkhdpfmknkaa
