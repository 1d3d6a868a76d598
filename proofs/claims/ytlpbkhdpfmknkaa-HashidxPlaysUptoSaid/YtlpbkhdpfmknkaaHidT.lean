/-
  hashidx: Put.
-/
import Derived.Test.YtlpbkhdpfmknkaaHidR
namespace Go.Proofs.Ytlpbkhdpfmknkaa
open Go.RowKit

/-- what Put answers and leaves -/
def PutRes (E : List (List UInt8 × Int)) (most : Nat) (key : List UInt8) (v old : Int) (had : Bool) (err : Int) (E' : List (List UInt8 × Int)) : Prop :=
  (4096 < key.length ∧ old = 0 ∧ had = false ∧ err = 51 ∧ E' = E) ∨
  (key.length ≤ 4096 ∧ had = true ∧ err = 0 ∧ ∃ R, List.Perm E ((key, old) :: R) ∧ E' = (key, v) :: R) ∨
  (key.length ≤ 4096 ∧ (∀ u, (key, u) ∉ E) ∧ E.length = most ∧ old = 0 ∧ had = false ∧ err = 52 ∧ E' = E) ∨
  (key.length ≤ 4096 ∧ (∀ u, (key, u) ∉ E) ∧ E.length < most ∧ old = 0 ∧ had = false ∧ err = 0 ∧ E' = (key, v) :: E)
def PutPost (w : World) (B : Nat → Prop) (x most probes : Nat) (E : List (List UInt8 × Int)) (key : List UInt8) (v : Int) (e : Ending) (w' : World) : Prop :=
  ∃ (old : Int) (had : Bool) (err : Int) (E' : List (List UInt8 × Int)) (B' : Nat → Prop), e = .returned (.tuple #[.int .i64 old, .bool had, .int .i64 err]) ∧ PutRes E most key v old had err E' ∧ HIx w' B' x most (probes + 1) E' ∧ (∀ b, B' b → B b ∨ w.heap.size ≤ b) ∧ Chg B w w'
theorem set_same {α : Type} {l : List α} {i : Nat} {v : α} (h : l[i]? = some v) : l.set i v = l := by
  obtain ⟨hi, e⟩ := List.getElem?_eq_some_iff.1 h
  rw [← e]; exact List.set_getElem_self hi
/-- the number alone is written -/
theorem IxAt.putNum {w : World} {B : Nat → Prop} {x tb most size marks probes : Nat} {T : List Pl} {Ks : List Value} (h : IxAt w B x tb most size marks probes T Ks) (hne : x ≠ tb) {i : Nat} {p : Pl} (hp : T[i]? = some p) (v : Int) : IxAt (w.setCell ⟨tb, i * 3 + 2, none⟩ (.int .i64 v)) B x tb most size marks probes (T.set i ⟨p.st, p.key, v⟩) Ks := by
  have hi : i < T.length := (List.getElem?_eq_some_iff.1 hp).1
  have hiK : i < Ks.length := by rw [h.tab.len]; exact hi
  have hK : Ks[i]? = some Ks[i] := List.getElem?_eq_getElem hiK
  have e := tabC_set T Ks i ⟨p.st, p.key, v⟩ Ks[i] h.tab.len hi
  have s0 : (tabC T Ks).set (i * 3) (.int .u8 (p.st : Int)) = tabC T Ks := set_same (tabC_get hp hK 0 _ rfl)
  have s1 : (tabC T Ks).set (i * 3 + 1) Ks[i] = tabC T Ks := set_same (tabC_get hp hK 1 _ rfl)
  dsimp only at e
  rw [set_same hK, s0, s1] at e
  have hc := chg_one w ⟨tb, i * 3 + 2, none⟩ (.int .i64 v)
  refine ⟨by rw [List.length_set]; exact h.blk.far (p := ⟨tb, i * 3 + 2, none⟩) hne _, ⟨?_, by rw [List.length_set]; exact h.tab.len, fun j q L h1 h2 => ?_, h.tab.inB⟩, by rw [List.length_set]; exact h.pow, h.inB⟩
  · rw [e]
    have := h.tab.blk.set_ (i * 3 + 2) (.int .i64 v)
    simpa using this
  · have hkeep : ∀ {k : List UInt8}, OwnKey w B L k → OwnKey (w.setCell ⟨tb, i * 3 + 2, none⟩ (.int .i64 v)) B L k := fun ho => ho.keep hc fun A n c e a ha => ho.ne h.tab.blk (by decide) A n c e a ha
    by_cases hj : i = j
    · subst hj
      rw [List.getElem?_set_self hi] at h1
      injection h1 with h1
      subst h1
      exact hkeep (h.tab.keys i p L hp h2)
    · rw [List.getElem?_set_ne hj] at h1
      exact hkeep (h.tab.keys j q L h1 h2)
theorem blk_type {w : World} {g : Nat} {t t' : TypeId} {cs cs' : Array Value} (h : Blk w g t cs) (h' : Blk w g t' cs') : t = t' := by
  unfold Blk at h h'
  rw [h] at h'
  injection h' with h'
  injection h' with _ h'

set_option maxRecDepth 100000 in
/-- a key that is too long -/
theorem put_long {w : World} {B : Nat → Prop} {x most probes : Nat} {E : List (List UInt8 × Int)} (h : HIx w B x most probes E) (hp : probes ≤ 4611686018427387904) (key : List UInt8) (v : Int) (A : Option Addr) (n c : Nat) (hn : n = key.length) (hl : 4096 < n) (hn2 : n ≤ 4611686018427387904) :
    Calls Try.prog 9 #[.pointer (some ⟨x, 0, none⟩), .slice A n c, .int .i64 v] w (PutPost w B x most probes E key v) := by
  obtain ⟨tb, T, Ks, hI, hG, hE, h1, h2, h3, hne⟩ := h.at_
  have a3 : w.cell? ⟨x, 3, none⟩ = some (.int .i64 probes) := hI.blk.cell 3
  have f3 : w.frozen? ⟨x, 3, none⟩ = false := hI.blk.frozen 3
  have hC := hide (show Chg B w (w.setCell ⟨x, 3, none⟩ (.int .i64 ((probes : Int) + 1))) from (Chg.refl _ _).setCell (.inl hI.inB) _)
  have HR := hide (show PutRes E most key v 0 false 51 E from .inl ⟨by omega, rfl, rfl, rfl, rfl⟩)
  have HH := hide (show HIx (w.setCell ⟨x, 3, none⟩ (.int .i64 ((probes : Int) + 1))) B x most (probes + 1) E from ⟨⟨tb, T, Ks, hI.probe hne, hG, hE, h1, h2, h3, hne⟩, h.most, fun b hb => by simpa using h.old b hb⟩)
  have hl2 : (4096 : Int) < (n : Int) := by omega
  clear h hI hG hE h1 h2 h3 hne hn
  go_enter Try.func9, Try.ntmps9
  go_wp2_with fail
  go_ret3
  exact ⟨0, false, 51, E, B, rfl, HR.out, HH.out, fun _ hb => .inl hb, hC.out⟩

set_option maxRecDepth 100000 in
/-- a key that is there -/
theorem put_there {w : World} {B : Nat → Prop} {x most probes : Nat} {E : List (List UInt8 × Int)} (h : HIx w B x most probes E) (hp : probes ≤ 4611686018427387904) (key : List UInt8) (v : Int) (A : Option Addr) (n c : Nat) (hk : KeyAt w A n key) (ha : Aside B A) (hl : n ≤ 4096) (hin : ∃ u, (key, u) ∈ E) :
    Calls Try.prog 9 #[.pointer (some ⟨x, 0, none⟩), .slice A n c, .int .i64 v] w (PutPost w B x most probes E key v) := by
  obtain ⟨tb, T, Ks, hI, hG, hE, h1, h2, h3, hne⟩ := h.at_
  have hkx : KeyAt (w.setCell ⟨x, 3, none⟩ (.int .i64 ((probes : Int) + 1))) A n key := (chg_one w _ _).key hk fun a he hx => ha a he (by rw [hx]; exact hI.inB)
  have HF := hide (find_any key A n c _ B x tb most _ _ _ T Ks (hI.probe hne) hkx hG.st (by omega))
  have HI := hide (hI.probe hne)
  have a3 : w.cell? ⟨x, 3, none⟩ = some (.int .i64 probes) := hI.blk.cell 3
  have f3 : w.frozen? ⟨x, 3, none⟩ = false := hI.blk.frozen 3
  have HC := hide (show Chg B w (w.setCell ⟨x, 3, none⟩ (.int .i64 ((probes : Int) + 1))) from (Chg.refl _ _).setCell (.inl hI.inB) _)
  have hm := h.most
  have HO := hide h.old
  obtain ⟨i, p, hf, hpi, hp1, hpk⟩ : ∃ (i : Nat) (p : Pl), findP T key = (some i, some i) ∧ T[i]? = some p ∧ p.st = 1 ∧ p.key = key := by
    rcases find_spec hG key with h9 | ⟨f, _, _, h9⟩
    · exact h9
    · obtain ⟨u, hu⟩ := hin
      obtain ⟨i, p, q1, q2, q3, _⟩ := mem_ents.1 (hE.mem_iff.2 hu)
      exact absurd q3 (h9 i p q1 q2)
  rw [hf] at HF
  have HP := hide hpi
  have hil : i < T.length := (List.getElem?_eq_some_iff.1 hpi).1
  obtain ⟨hG2, R, r1, r2, r3⟩ := turn_good (p := ⟨1, key, v⟩) hG hpi hp1 (.inl ⟨rfl, hpk.symm⟩)
  have hER : List.Perm E ((key, p.num) :: R) := hpk ▸ (hE.symm.trans r1)
  have hEl := hER.length_eq
  rw [List.length_cons] at hEl
  have r3 : goneN (T.set i ⟨1, key, v⟩) = goneN T := r3
  have hkl := hk.len
  have HR := hide (show PutRes E most key v p.num true 0 ((key, v) :: R) from .inr (.inl ⟨by omega, rfl, rfl, R, hER, rfl⟩))
  have HW := hide (show HGood (T.set i ⟨1, key, v⟩) ∧ List.Perm (ents (T.set i ⟨1, key, v⟩)) ((key, v) :: R) ∧ 4 * (((key, v) :: R).length + goneN (T.set i ⟨1, key, v⟩)) ≤ 3 * (T.set i ⟨1, key, v⟩).length ∧ (T.set i ⟨1, key, v⟩).length ≤ 4 * most + 8 ∧ (∀ p ∈ T.set i ⟨1, key, v⟩, p.key.length ≤ 4096) ∧ x ≠ tb from
    ⟨hG2, r2, by rw [r3, List.length_set, List.length_cons]; omega, by rw [List.length_set]; exact h2, fun q hq => by
      rcases List.mem_or_eq_of_mem_set hq with hq | rfl
      · exact h3 q hq
      · dsimp only; omega, hne⟩)
  have hinB := hide (And.intro hI.inB hI.tab.inB)
  have HEl := hide hEl
  have HR3 := hide r3
  have hst1 := hide (And.intro hp1 hpk)
  have hl2 : ¬ (4096 : Int) < (n : Int) := by omega
  have hi0 : (0 : Int) ≤ (i : Int) := by omega
  have hi1 : (i : Int) < (T.length : Int) := by omega
  clear h hk hkx hI hE hf hpi hp1 hpk hG h1 h2 h3 ha hne hG2 r1 r2 r3 hER hEl hkl hin
  go_enter Try.func9, Try.ntmps9
  go_wp2_with fail
  refine HF.out.mono ?_
  rintro e w1 ⟨rfl, x1⟩
  have X1 := hide x1
  have HI1 := hide (HI.out.ext x1)
  obtain ⟨A5, n5, c5, b0, b1, b2, _, hKs⟩ := HI1.out.tab.at_ HP.out
  have a4 : w1.cell? ⟨x, 4, none⟩ = some (.slice (some ⟨tb, 0, none⟩) T.length T.length) := HI1.out.blk.cell 4
  clear x1 a3 f3 b0 b1
  simp only [frV]
  go_wp2_with fail
  have a4 := cell_ext a4
  have b2 := cell_ext b2
  refine wp_region_ext 17 (by kernel_rfl) (by kernel_rfl) (by kernel_rfl) ?_
  iterate 17
    refine wpE_k (by kernel_rfl) (by kernel_rfl) ?_
    apply Exists.intro
    refine ⟨fun w1 hw1 => ?_, fun K hK => ?_⟩
    · go_simp; first | done | rfl
    go_simp; refine hK _ _ ?_; clear hK K
  refine wpE_nil ⟨rfl, by kernel_rfl, fun wq hwq => ?_⟩
  simp only [EndQ, List.drop]
  have HIq := hide (HI1.out.ext hwq)
  obtain ⟨_, _, _, d0, d1, d2, hKq, hKs'⟩ := HIq.out.tab.at_ HP.out
  have g2 : wq.frozen? ⟨tb, i * 3 + 2, none⟩ = false := HIq.out.tab.blk.frozen _
  have XQ := hide (X1.out.trans hwq)
  clear a4 b2 hwq
  go_wp2_with fail
  go_ret3
  have hI9 := HIq.out.putNum HW.out.2.2.2.2.2 HP.out v
  rw [hst1.out.1, hst1.out.2, HEl.out, ← HR3.out] at hI9
  have hC9 := (HC.out.trans' (Chg.of XQ.out)).setCell (p := ⟨tb, i * 3 + 2, none⟩) (.inl hinB.out.2) (.int .i64 v)
  have he9 := HEl.out
  exact ⟨p.num, true, 0, _, B, rfl, HR.out, ⟨⟨tb, _, Ks, hI9, HW.out.1, HW.out.2.1, HW.out.2.2.1, HW.out.2.2.2.1, HW.out.2.2.2.2.1, HW.out.2.2.2.2.2⟩, ⟨by rw [List.length_cons]; omega, hm.2⟩, fun b hb => Nat.lt_of_lt_of_le (HO.out b hb) hC9.size⟩, fun _ hb => .inl hb, hC9⟩
end Go.Proofs.Ytlpbkhdpfmknkaa
