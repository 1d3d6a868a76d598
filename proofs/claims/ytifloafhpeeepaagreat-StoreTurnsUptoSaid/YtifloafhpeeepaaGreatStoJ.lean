/-
  store: New.
-/
import Derived.Test.YtifloafhpeeepaaGreatStoI
import Derived.Test.YtifloafhpeeepaaGreatCloneI
namespace Go.Proofs.YtifloafhpeeepaaGreat
open Go.RowKit

/-- do the columns rise, all below the width? -/
def risesS (width : Int) : Int → List Int → Bool
  | _, [] => true
  | last, c :: l => decide (last < c) && (decide (c < width) && risesS width c l)
/-- the error's number; 0: none -/
def goodS (width most : Int) (gs : List (List Int)) : Int :=
  if width < 0 ∨ 30 < width then 60 else if most < 1 ∨ 65536 < most then 50 else if 4 < gs.length then 61 else if gs.all (risesS width (-1)) then 0 else 61
theorem goodS_60 {width most : Int} {gs : List (List Int)} (h : width < 0 ∨ 30 < width) : goodS width most gs = 60 := if_pos h
theorem goodS_50 {width most : Int} {gs : List (List Int)} (h : ¬ (width < 0 ∨ 30 < width)) (h2 : most < 1 ∨ 65536 < most) : goodS width most gs = 50 := by unfold goodS; rw [if_neg h, if_pos h2]
theorem goodS_61 {width most : Int} {gs : List (List Int)} (h : ¬ (width < 0 ∨ 30 < width)) (h2 : ¬ (most < 1 ∨ 65536 < most)) (h3 : 4 < gs.length) : goodS width most gs = 61 := by unfold goodS; rw [if_neg h, if_neg h2, if_pos h3]
theorem goodS_all {width most : Int} {gs : List (List Int)} (h : ¬ (width < 0 ∨ 30 < width)) (h2 : ¬ (most < 1 ∨ 65536 < most)) (h3 : ¬ 4 < gs.length) : goodS width most gs = if gs.all (risesS width (-1)) then 0 else 61 := by unfold goodS; rw [if_neg h, if_neg h2, if_neg h3]
/-- rows of numbers -/
def NumsAt (w : World) (A : Option Addr) (n : Nat) (gs : List (List Int)) : Prop :=
  n = gs.length ∧ ∃ vs : List Value, Sl w A n 1 vs ∧ ∀ (k : Nat) (g : List Int), gs[k]? = some g → ∃ Ak ck, vs[k]? = some (.slice Ak g.length ck) ∧ NumAt w Ak g.length g
theorem NumsAt.ext {w w' : World} {A : Option Addr} {n : Nat} {gs : List (List Int)} (h : NumsAt w A n gs) (hw : Ext w w') : NumsAt w' A n gs := by
  obtain ⟨h1, vs, h2, h3⟩ := h
  refine ⟨h1, vs, h2.ext hw, fun k g hg => ?_⟩
  obtain ⟨Ak, ck, h4, h5⟩ := h3 k g hg
  exact ⟨Ak, ck, h4, h5.ext hw⟩
theorem NumsAt.get {w : World} {A : Option Addr} {n : Nat} {gs : List (List Int)} (h : NumsAt w A n gs) {k : Nat} {g : List Int} (hg : gs[k]? = some g) : ∃ b off Ak ck, A = some ⟨b, off, none⟩ ∧ w.cell? ⟨b, off + k, none⟩ = some (.slice Ak g.length ck) ∧ NumAt w Ak g.length g := by
  obtain ⟨h1, vs, h2, h3⟩ := h
  obtain ⟨Ak, ck, h4, h5⟩ := h3 k g hg
  have hk := (List.getElem?_eq_some_iff.1 hg).1
  obtain ⟨b, off, e, hc⟩ := h2.2 (by omega)
  exact ⟨b, off, Ak, ck, e, hc k _ h4, h5⟩
/-- rows of numbers of one's own, in the blocks B -/
structure GMade (w : World) (B : Nat → Prop) (A : Option Addr) (k c : Nat) (gs : List (List Int)) : Prop where
  len : k = gs.length
  row : ∃ vs : List Value, OwnH w B 27 1 k (.slice A k c) vs ∧ ∀ (j : Nat) (g : List Int), gs[j]? = some g → ∃ Ak ck, vs[j]? = some (.slice Ak g.length ck) ∧ OwnH w B 3 1 g.length (.slice Ak g.length ck) (g.map (Value.int .i64))
theorem GMade.ext {w w' : World} {B : Nat → Prop} {A : Option Addr} {k c : Nat} {gs : List (List Int)} (h : GMade w B A k c gs) (hw : Ext w w') : GMade w' B A k c gs := by
  obtain ⟨h1, vs, h2, h3⟩ := h
  refine ⟨h1, vs, h2.ext hw, fun j g hg => ?_⟩
  obtain ⟨Ak, ck, h4, h5⟩ := h3 j g hg
  exact ⟨Ak, ck, h4, h5.ext hw⟩
theorem GMade.nil (w : World) (B : Nat → Prop) : GMade w B none 0 0 [] := ⟨rfl, [], OwnH.nil _ _ _ _, fun j g h => (by cases h)⟩
theorem own_inB {w : World} {base : Nat} {e : TypeId} {s n c : Nat} {A : Option Addr} {xs : List Value} (h : w.ownsRow base e s (.slice A n c) n xs) : OwnH w (fun b => base ≤ b) e s n (.slice A n c) xs :=
  ⟨own_base0 h (Nat.zero_le _), fun g hg => (h.lt g hg).1⟩
/-- one more -/
theorem GMade.push1 {w w8 : World} {B : Nat → Prop} {x : Nat} {cs : Array Value} {A A8 Ak : Option Addr} {k c c8 ck b0 : Nat} {gs : List (List Int)} {g : List Int} {vs : List Value} (h : GMade w B A k c gs) (hX : Blk w x 78 cs) (hg : OwnH w B 3 1 g.length (.slice Ak g.length ck) (g.map (Value.int .i64))) (hb0 : B b0)
    (h2 : OwnH w B 27 1 k (.slice A k c) vs) (h3 : ∀ (j : Nat) (g : List Int), gs[j]? = some g → ∃ Ak ck, vs[j]? = some (.slice Ak g.length ck) ∧ OwnH w B 3 1 g.length (.slice Ak g.length ck) (g.map (Value.int .i64)))
    (o8 : OwnH w8 (fun b => B b ∨ b = b0) 27 1 (k + 1) (.slice A8 (k + 1) c8) (vs ++ [.slice Ak g.length ck])) (G8 : w.grownBy w8 (Value.slice A k c).ownBlock) (u : Value) :
    GMade (w8.setCell ⟨x, 3, none⟩ u) B A8 (k + 1) c8 (gs ++ [g]) := by
  have h1 := h.len
  have hb8 := hX.grown G8 (own_ne_blk h2.own hX (by decide))
  refine ⟨by rw [List.length_append, h1]; rfl, vs ++ [.slice Ak g.length ck], ?_, fun j q hq => ?_⟩
  · have o9 := o8.far hb8 (by decide) 3 u
    exact ⟨o9.own, fun b hb => (o9.inB b hb).elim id fun e => e ▸ hb0⟩
  · have hvl : vs.length = k := by have := h2.own.1; omega
    rcases Nat.lt_or_ge j gs.length with hj | hj
    · rw [List.getElem?_append_left hj] at hq
      obtain ⟨Aj, cj, h4, h5⟩ := h3 j q hq
      exact ⟨Aj, cj, by rw [List.getElem?_append_left (by omega)]; exact h4, (h5.grown h2.own (by decide) G8).far hb8 (by decide) 3 u⟩
    · rw [List.getElem?_append_right hj] at hq
      have hj0 : j - gs.length = 0 := by
        have := (List.getElem?_eq_some_iff.1 hq).1
        simp at this; omega
      rw [hj0] at hq
      obtain rfl : g = q := by simpa using hq
      refine ⟨Ak, ck, ?_, (hg.grown h2.own (by decide) G8).far hb8 (by decide) 3 u⟩
      rw [List.getElem?_append_right (by omega), show j - vs.length = 0 by omega]; rfl
theorem ext_setNew {w w' : World} {x : Nat} (h : Ext w w') (hx : w.heap.size ≤ x) (j : Nat) (u : Value) : Ext w (w'.setCell ⟨x, j, none⟩ u) :=
  (Chg.setCell (B := fun b => w.heap.size ≤ b) (Chg.refl _ w') (p := ⟨x, j, none⟩) (.inl hx) u).ext h fun _ hb => hb
theorem GMade.grp {w : World} {B : Nat → Prop} {A : Option Addr} {k c : Nat} {gs : List (List Nat)} (h : GMade w B A k c (gs.map fun g => g.map Int.ofNat)) : GrpAt w B A gs.length gs := by
  obtain ⟨h1, vs, h2, h3⟩ := h
  have hk : k = gs.length := by rw [h1, List.length_map]
  subst hk
  have hin : ∀ (A : Option Addr) (n c : Nat) (e : TypeId) (s : Nat) (xs : List Value), OwnH w B e s n (.slice A n c) xs → ∀ a, A = some a → B a.block := fun A n c e s xs ho a ha => by
    rcases ho.own.2 with ⟨h1, _⟩ | ⟨g, cap, cur, h1, h2, _⟩
    · injection h1 with h1; rw [h1] at ha; cases ha
    · injection h1 with h1
      rw [h1] at ha
      injection ha with ha
      subst ha
      exact ho.inB g (by rw [h1]; rfl)
  refine ⟨rfl, hin _ _ _ _ _ _ h2, vs, Sl.own h2.own, fun j g hg => ?_⟩
  obtain ⟨Ak, ck, h4, h5⟩ := h3 j (g.map Int.ofNat) (by rw [List.getElem?_map, hg]; rfl)
  rw [List.length_map] at h4 h5
  exact ⟨Ak, ck, h4, NumAt.own h5.own, hin _ _ _ _ _ _ h5⟩
theorem GMade.bound {w : World} {B : Nat → Prop} {A : Option Addr} {k c : Nat} {gs : List (List Int)} (h : GMade w B A k c gs) : GMade w (fun b => B b ∧ b < w.heap.size) A k c gs := by
  obtain ⟨h1, vs, h2, h3⟩ := h
  refine ⟨h1, vs, ⟨h2.own, fun g hg => ⟨h2.inB g hg, h2.lt g hg⟩⟩, fun j g hg => ?_⟩
  obtain ⟨Ak, ck, h4, h5⟩ := h3 j g hg
  exact ⟨Ak, ck, h4, ⟨h5.own, fun g hg => ⟨h5.inB g hg, h5.lt g hg⟩⟩⟩
theorem rises_nat {W : Int} : ∀ {g : List Int} {last : Int}, risesS W last g = true → -1 ≤ last → (g.map Int.toNat).map Int.ofNat = g
  | [], _, _, _ => rfl
  | c :: l, last, h, hl => by
    simp only [risesS, Bool.and_eq_true, decide_eq_true_eq] at h
    have ih := rises_nat h.2.2 (by omega)
    simp only [List.map_cons, ih]
    congr 1
    exact Int.toNat_of_nonneg (by omega)
theorem rises_lt {W : Nat} : ∀ {g : List Int} {last : Int}, risesS W last g = true → -1 ≤ last → last < W → (∀ c ∈ g.map Int.toNat, c < W) ∧ (g.length : Int) ≤ W - 1 - last
  | [], _, _, _, h => ⟨fun c hc => (by cases hc), by simp only [List.length_nil]; omega⟩
  | c :: l, last, h, hl, _ => by
    simp only [risesS, Bool.and_eq_true, decide_eq_true_eq] at h
    have ih := rises_lt h.2.2 (by omega) (by omega)
    refine ⟨fun d hd => ?_, ?_⟩
    · rcases List.mem_cons.1 hd with rfl | hd
      · omega
      · exact ih.1 d hd
    · have := ih.2; simp only [List.length_cons]; omega
/-- what a good store's width, limit and groupings are -/
theorem goodS_ok {width most : Int} {gs : List (List Int)} (h : goodS width most gs = 0) : (0 ≤ width ∧ width ≤ 30) ∧ (1 ≤ most ∧ most ≤ 65536) ∧ gs.length ≤ 4 ∧ ∀ g ∈ gs.map (fun g => g.map Int.toNat), g.length ≤ 30 ∧ ∀ c ∈ g, c < width.toNat := by
  by_cases h1 : width < 0 ∨ 30 < width
  · rw [goodS_60 h1] at h; omega
  by_cases h2 : most < 1 ∨ 65536 < most
  · rw [goodS_50 h1 h2] at h; omega
  by_cases h3 : 4 < gs.length
  · rw [goodS_61 h1 h2 h3] at h; omega
  rw [goodS_all h1 h2 h3] at h
  cases hg : gs.all (risesS width (-1)) with
  | false => rw [hg] at h; simp at h
  | true =>
    refine ⟨by omega, by omega, by omega, fun g hgm => ?_⟩
    obtain ⟨g0, hg0, rfl⟩ := List.mem_map.1 hgm
    obtain ⟨W, rfl⟩ : ∃ W : Nat, width = W := ⟨width.toNat, by omega⟩
    have h5 := rises_lt (List.all_eq_true.1 hg g0 hg0) (by omega) (by omega)
    refine ⟨?_, fun c hc => by have := h5.1 c hc; omega⟩
    have := h5.2
    rw [List.length_map]; omega
theorem infoIs : (Tryz.prog.info? 27).map (fun i => (i.zero, i.size, i.bytes)) = some (some (.slice none 0 0), 1, 24) := by kernel_rfl
end Go.Proofs.YtifloafhpeeepaaGreat
