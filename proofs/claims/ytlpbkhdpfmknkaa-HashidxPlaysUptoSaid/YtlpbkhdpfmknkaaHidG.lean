/-
  hashidx: a field of the index is written; Get.
-/
import Derived.Test.YtlpbkhdpfmknkaaHidN
namespace Go.Proofs.Ytlpbkhdpfmknkaa
open Go.RowKit

theorem chg_one (w : World) (p : Addr) (u : Value) : Chg (fun g => g = p.block) w (w.setCell p u) := Chg.setCell (B := fun g => g = p.block) (Chg.refl _ w) (.inl rfl) u
theorem TabAt.setX {w : World} {B : Nat → Prop} {tb x : Nat} {T : List Pl} {Ks : List Value} {cs : Array Value} (h : TabAt w B tb T Ks) (hb : Blk w x 51 cs) (hne : x ≠ tb) (j : Nat) (u : Value) : TabAt (w.setCell ⟨x, j, none⟩ u) B tb T Ks :=
  ⟨h.blk.far (p := ⟨x, j, none⟩) (Ne.symm hne) u, h.len, fun i p K h1 h2 => (h.keys i p K h1 h2).keep (chg_one w _ u) fun A n c e a ha => (h.keys i p K h1 h2).ne hb (by decide) A n c e a ha, h.inB⟩
theorem IxAt.ext {w w' : World} {B : Nat → Prop} {x tb most size marks probes : Nat} {T : List Pl} {Ks : List Value} (h : IxAt w B x tb most size marks probes T Ks) (hw : Ext w w') : IxAt w' B x tb most size marks probes T Ks :=
  ⟨h.blk.ext hw, h.tab.ext hw, h.pow, h.inB⟩
theorem IxAt.setSize {w : World} {B : Nat → Prop} {x tb most size marks probes : Nat} {T : List Pl} {Ks : List Value} (h : IxAt w B x tb most size marks probes T Ks) (hne : x ≠ tb) (v : Nat) (u : Int) (hu : u = (v : Int)) : IxAt (w.setCell ⟨x, 1, none⟩ (.int .i64 u)) B x tb most v marks probes T Ks := by
  subst hu
  exact ⟨h.blk.set_ 1 _, h.tab.setX h.blk hne 1 _, h.pow, h.inB⟩
theorem IxAt.setMarks {w : World} {B : Nat → Prop} {x tb most size marks probes : Nat} {T : List Pl} {Ks : List Value} (h : IxAt w B x tb most size marks probes T Ks) (hne : x ≠ tb) (v : Nat) (u : Int) (hu : u = (v : Int)) : IxAt (w.setCell ⟨x, 2, none⟩ (.int .i64 u)) B x tb most size v probes T Ks := by
  subst hu
  exact ⟨h.blk.set_ 2 _, h.tab.setX h.blk hne 2 _, h.pow, h.inB⟩
theorem IxAt.setProbes {w : World} {B : Nat → Prop} {x tb most size marks probes : Nat} {T : List Pl} {Ks : List Value} (h : IxAt w B x tb most size marks probes T Ks) (hne : x ≠ tb) (v : Nat) (u : Int) (hu : u = (v : Int)) : IxAt (w.setCell ⟨x, 3, none⟩ (.int .i64 u)) B x tb most size marks v T Ks := by
  subst hu
  exact ⟨h.blk.set_ 3 _, h.tab.setX h.blk hne 3 _, h.pow, h.inB⟩
/-- a key that was handed in lies elsewhere -/
def Aside (B : Nat → Prop) (A : Option Addr) : Prop := ∀ a, A = some a → ¬ B a.block
theorem IxAt.probe {w : World} {B : Nat → Prop} {x tb most size marks probes : Nat} {T : List Pl} {Ks : List Value} (h : IxAt w B x tb most size marks probes T Ks) (hne : x ≠ tb) : IxAt (w.setCell ⟨x, 3, none⟩ (.int .i64 ((probes : Int) + 1))) B x tb most size marks (probes + 1) T Ks :=
  h.setProbes hne _ _ (by omega)

/-- what lies under a key -/
def LookAt (E : List (List UInt8 × Int)) (key : List UInt8) (r : Option Int) : Prop := (∀ v, r = some v → (key, v) ∈ E) ∧ (r = none → ∀ v, (key, v) ∉ E)
set_option maxRecDepth 100000 in
theorem get_any {w : World} {B : Nat → Prop} {x most probes : Nat} {E : List (List UInt8 × Int)} (h : HIx w B x most probes E) (hp : probes ≤ 4611686018427387904) (key : List UInt8) (A : Option Addr) (n c : Nat) (hk : KeyAt w A n key) (ha : Aside B A) (hn : n ≤ 4611686018427387904) :
    Calls Try.prog 15 #[.pointer (some ⟨x, 0, none⟩), .slice A n c] w fun e w' => ∃ r : Option Int, e = .returned (.tuple #[.int .i64 (r.getD 0), .bool r.isSome]) ∧ LookAt E key r ∧ HIx w' B x most (probes + 1) E ∧ Chg B w w' := by
  obtain ⟨tb, T, Ks, hI, hG, hE, h1, h2, h3, hne⟩ := h.at_
  have hkx : KeyAt (w.setCell ⟨x, 3, none⟩ (.int .i64 ((probes : Int) + 1))) A n key := (chg_one w _ _).key hk fun a he hx => ha a he (by rw [hx]; exact hI.inB)
  have HF := hide (find_any key A n c _ B x tb most _ _ _ T Ks (hI.probe hne) hkx hG.st hn)
  have HI := hide (hI.probe hne)
  have a3 : w.cell? ⟨x, 3, none⟩ = some (.int .i64 probes) := hI.blk.cell 3
  have f3 : w.frozen? ⟨x, 3, none⟩ = false := hI.blk.frozen 3
  have HC := hide (show Chg B w (w.setCell ⟨x, 3, none⟩ (.int .i64 ((probes : Int) + 1))) from (Chg.refl _ _).setCell (.inl hI.inB) _)
  have hm := h.most
  have HO := hide h.old
  have HE := hide hE
  rcases find_spec hG key with ⟨i, p, hf, hpi, hp1, hpk⟩ | ⟨f, hf, hfree, hno⟩
  · rw [hf] at HF
    have HR := hide (show LookAt E key (some p.num) from ⟨fun v hv => by injection hv with hv; subst hv; exact hE.mem_iff.1 (mem_ents.2 ⟨i, p, hpi, hp1, hpk, rfl⟩), fun hv => by cases hv⟩)
    have HP := hide hpi
    have hil : i < T.length := (List.getElem?_eq_some_iff.1 hpi).1
    have HW := hide (And.intro hG (And.intro h1 (And.intro h2 (And.intro h3 hne))))
    clear h hk hkx hI hE hf hpi hp1 hpk hG h1 h2 h3 ha hne
    go_enter Try.func15, Try.ntmps15
    go_wp2_with fail
    refine HF.out.mono ?_
    rintro e w1 ⟨rfl, x1⟩
    have X1 := hide x1
    obtain ⟨_, _, _, _, _, b2, _⟩ := (HI.out.ext x1).tab.at_ HP.out
    have a4 : w1.cell? ⟨x, 4, none⟩ = some (.slice (some ⟨tb, 0, none⟩) T.length T.length) := (HI.out.ext x1).blk.cell 4
    clear x1 a3 f3
    simp only [frV]
    go_wp2_with fail
    go_ret2
    have hC := HC.out.trans' (Chg.of X1.out)
    exact ⟨some p.num, rfl, HR.out, ⟨⟨tb, T, Ks, HI.out.ext X1.out, HW.out.1, HE.out, HW.out.2.1, HW.out.2.2.1, HW.out.2.2.2.1, HW.out.2.2.2.2⟩, hm, fun b hb => Nat.lt_of_lt_of_le (HO.out b hb) hC.size⟩, hC⟩
  · rw [hf] at HF
    have HR := hide (show LookAt E key none from ⟨fun v hv => (by cases hv), fun _ v hv => (mem_ents.1 (hE.mem_iff.2 hv)).elim fun i hi => hi.elim fun p hp => hno i p hp.1 hp.2.1 hp.2.2.1⟩)
    have HW := hide (And.intro hG (And.intro h1 (And.intro h2 (And.intro h3 hne))))
    clear h hk hkx hI hE hf hfree hno hG h1 h2 h3 ha hne
    go_enter Try.func15, Try.ntmps15
    go_wp2_with fail
    refine HF.out.mono ?_
    rintro e w1 ⟨rfl, x1⟩
    have X1 := hide x1
    clear x1 a3 f3
    simp only [frV]
    go_wp2_with fail
    go_ret2
    have hC := HC.out.trans' (Chg.of X1.out)
    exact ⟨none, rfl, HR.out, ⟨⟨tb, T, Ks, HI.out.ext X1.out, HW.out.1, HE.out, HW.out.2.1, HW.out.2.2.1, HW.out.2.2.2.1, HW.out.2.2.2.2⟩, hm, fun b hb => Nat.lt_of_lt_of_le (HO.out b hb) hC.size⟩, hC⟩
end Go.Proofs.Ytlpbkhdpfmknkaa
