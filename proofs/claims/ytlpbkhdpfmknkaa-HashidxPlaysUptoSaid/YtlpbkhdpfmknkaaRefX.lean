/-
  The document's index in memory: place, at, Get.
-/
import Derived.Test.YtlpbkhdpfmknkaaRefP
import Derived.Test.YtlpbkhdpfmknkaaHidY
import Derived.Deep.AppendLies
namespace Go.Proofs.Ytlpbkhdpfmknkaa
open Go.RowKit

/-- numbers' cells -/
def numC (N : List Int) : List Value := N.map (Value.int .i64)
def txtC (L : List ByteArray) : List Value := L.map Value.string
/-- the document's index in memory, in the blocks R -/
structure RRaw (w : World) (R : Nat → Prop) (d most probes : Nat) (A : Option Addr) (a : Nat) (M : Option Addr) (m : Nat) (L : List ByteArray) (N : List Int) : Prop where
  blk : Blk w d 43 #[.int .i64 most, .int .i64 probes, .slice A L.length a, .slice M N.length m]
  ks : w.ownsRow 0 9 1 (.slice A L.length a) L.length (txtC L)
  ns : w.ownsRow 0 3 1 (.slice M N.length m) N.length (numC N)
  inD : R d
  inK : ∀ x, A = some x → R x.block
  inN : ∀ x, M = some x → R x.block
  old : ∀ g, R g → g < w.heap.size
section
variable {w w' : World} {R C : Nat → Prop} {d most probes a m : Nat} {A M : Option Addr} {L : List ByteArray} {N : List Int}
theorem RRaw.far (h : RRaw w R d most probes A a M m L N) (hc : Chg C w w') (hd : ∀ g, R g → ¬ C g) : RRaw w' R d most probes A a M m L N :=
  ⟨hc.blk h.blk (hd _ h.inD), hc.own h.ks fun g hg => by
    cases A with
    | none => cases hg
    | some x => injection hg with hg; rw [← hg]; exact hd _ (h.inK x rfl), hc.own h.ns fun g hg => by
    cases M with
    | none => cases hg
    | some x => injection hg with hg; rw [← hg]; exact hd _ (h.inN x rfl), h.inD, h.inK, h.inN, fun g hg => Nat.lt_of_lt_of_le (h.old g hg) hc.size⟩
theorem RRaw.ext (h : RRaw w R d most probes A a M m L N) (hw : Ext w w') : RRaw w' R d most probes A a M m L N :=
  h.far (C := fun _ => False) (Chg.of hw) fun _ _ x => x
theorem RRaw.key (h : RRaw w R d most probes A a M m L N) {i : Nat} {s : ByteArray} (hs : L[i]? = some s) : ∃ g, A = some ⟨g, 0, none⟩ ∧ w.cell? ⟨g, i, none⟩ = some (.string s) ∧ w.frozen? ⟨g, i, none⟩ = false := by
  have hi : i < L.length := (List.getElem?_eq_some_iff.1 hs).1
  rcases h.ks.2 with ⟨_, h0⟩ | ⟨g, cap, cur, hv, _, hg, _⟩
  · omega
  · injection hv with e1
    subst e1
    have hc := h.ks.cells (g := g) rfl i (.string s) (by rw [txtC, List.getElem?_map, hs]; rfl)
    rw [add_flat, Nat.zero_add] at hc
    exact ⟨g, rfl, hc, (show Blk w g _ cur from hg).frozen i⟩
theorem RRaw.num (h : RRaw w R d most probes A a M m L N) {i : Nat} {v : Int} (hs : N[i]? = some v) : ∃ g, M = some ⟨g, 0, none⟩ ∧ w.cell? ⟨g, i, none⟩ = some (.int .i64 v) ∧ w.frozen? ⟨g, i, none⟩ = false := by
  have hi : i < N.length := (List.getElem?_eq_some_iff.1 hs).1
  rcases h.ns.2 with ⟨_, h0⟩ | ⟨g, cap, cur, hv, _, hg, _⟩
  · omega
  · injection hv with e1
    subst e1
    have hc := h.ns.cells (g := g) rfl i (.int .i64 v) (by rw [numC, List.getElem?_map, hs]; rfl)
    rw [add_flat, Nat.zero_add] at hc
    exact ⟨g, rfl, hc, (show Blk w g _ cur from hg).frozen i⟩
theorem RRaw.probe (h : RRaw w R d most probes A a M m L N) : RRaw (w.setCell ⟨d, 1, none⟩ (.int .i64 ((probes : Int) + 1))) R d most (probes + 1) A a M m L N ∧ Chg R w (w.setCell ⟨d, 1, none⟩ (.int .i64 ((probes : Int) + 1))) := by
  have hc : Chg (fun g => g = d) w (w.setCell ⟨d, 1, none⟩ (.int .i64 ((probes : Int) + 1))) := chg_one w ⟨d, 1, none⟩ _
  refine ⟨⟨h.blk.set_ 1 _, hc.own h.ks fun g hg hx => ?_, hc.own h.ns fun g hg hx => ?_, h.inD, h.inK, h.inN, fun g hg => Nat.lt_of_lt_of_le (h.old g hg) hc.size⟩, (Chg.refl R w).setCell (p := ⟨d, 1, none⟩) (.inl h.inD) _⟩
  · exact own_type h.ks h.blk (by decide) (by rw [hg, hx])
  · exact own_type h.ns h.blk (by decide) (by rw [hg, hx])
/-- a cell of an own row is written -/
theorem own_at {e : TypeId} {g n c i : Nat} {xs : List Value} (h : w.ownsRow 0 e 1 (.slice (some ⟨g, 0, none⟩) n c) n xs) (_hi : i < n) (u : Value) : (w.setCell ⟨g, i, none⟩ u).ownsRow 0 e 1 (.slice (some ⟨g, 0, none⟩) n c) n (xs.set i u) := by
  refine ⟨by rw [List.length_set]; exact h.1, ?_⟩
  rcases h.2 with ⟨hv, _⟩ | ⟨g', cap, cur, hv, h2, h3, h4, h5, h6, h7⟩
  · cases hv
  · injection hv with e1 e2 e3
    injection e1 with e1
    injection e1 with e1
    subst e1; subst e3
    refine .inr ⟨g, c, _, rfl, h2, (show Blk w g e cur from h3).set_ i u, h4, h5, by simpa using h6, ?_⟩
    rw [Array.toList_setIfInBounds, List.take_set, h7]
theorem RRaw.setKey {g : Nat} (h : RRaw w R d most probes (some ⟨g, 0, none⟩) a M m L N) {i : Nat} (hi : i < L.length) (s : ByteArray) : RRaw (w.setCell ⟨g, i, none⟩ (.string s)) R d most probes (some ⟨g, 0, none⟩) a M m (L.set i s) N ∧ Chg R w (w.setCell ⟨g, i, none⟩ (.string s)) := by
  have hc : Chg (fun x => x = g) w (w.setCell ⟨g, i, none⟩ (.string s)) := chg_one w ⟨g, i, none⟩ _
  have hgd : d ≠ g := fun e => own_type h.ks h.blk (by decide) (by rw [e]; rfl)
  refine ⟨⟨by rw [List.length_set]; exact hc.blk h.blk hgd, by
    rw [List.length_set]
    have := own_at h.ks hi (.string s)
    rwa [txtC, ← List.map_set] at this, hc.own h.ns fun x hx e => ?_, h.inD, h.inK, h.inN, fun g hg => Nat.lt_of_lt_of_le (h.old g hg) hc.size⟩, (Chg.refl R w).setCell (p := ⟨g, i, none⟩) (.inl (h.inK ⟨g, 0, none⟩ rfl)) _⟩
  subst e
  rcases h.ks.2 with ⟨hv, _⟩ | ⟨g', cap, cur, hv, _, h3, _⟩
  · cases hv
  · injection hv with e1
    injection e1 with e1
    injection e1 with e1
    subst e1
    exact own_type h.ns (show Blk w x _ cur from h3) (by decide) hx
theorem RRaw.setNum {g : Nat} (h : RRaw w R d most probes A a (some ⟨g, 0, none⟩) m L N) {i : Nat} (hi : i < N.length) (v : Int) : RRaw (w.setCell ⟨g, i, none⟩ (.int .i64 v)) R d most probes A a (some ⟨g, 0, none⟩) m L (N.set i v) ∧ Chg R w (w.setCell ⟨g, i, none⟩ (.int .i64 v)) := by
  have hc : Chg (fun x => x = g) w (w.setCell ⟨g, i, none⟩ (.int .i64 v)) := chg_one w ⟨g, i, none⟩ _
  have hgd : d ≠ g := fun e => own_type h.ns h.blk (by decide) (by rw [e]; rfl)
  refine ⟨⟨by rw [List.length_set]; exact hc.blk h.blk hgd, hc.own h.ks fun x hx e => ?_, by
    rw [List.length_set]
    have := own_at h.ns hi (.int .i64 v)
    rwa [numC, ← List.map_set] at this, h.inD, h.inK, h.inN, fun g hg => Nat.lt_of_lt_of_le (h.old g hg) hc.size⟩, (Chg.refl R w).setCell (p := ⟨g, i, none⟩) (.inl (h.inN ⟨g, 0, none⟩ rfl)) _⟩
  subst e
  rcases h.ns.2 with ⟨hv, _⟩ | ⟨g', cap, cur, hv, _, h3, _⟩
  · cases hv
  · injection hv with e1
    injection e1 with e1
    injection e1 with e1
    subst e1
    exact own_type h.ks (show Blk w x _ cur from h3) (by decide) hx
/-- a key is appended, and the field written -/
theorem RRaw.appKey (h : RRaw w R d most probes A a M m L N) {wA w1 : World} (hE : Ext w wA) {g cap : Nat} {s : ByteArray} (ho : w1.ownsRow 0 9 1 (.slice (some ⟨g, 0, none⟩) (L.length + 1) cap) (L.length + 1) (txtC L ++ [.string s])) (hg : wA.grownBy w1 (Value.slice A L.length a).ownBlock) (hl : (Value.slice A L.length a).ownBlock = some g ∨ g = wA.heap.size) (hlt : g < w1.heap.size) :
    ∃ R' : Nat → Prop, RRaw (w1.setCell ⟨d, 2, none⟩ (.slice (some ⟨g, 0, none⟩) (L.length + 1) cap)) R' d most probes (some ⟨g, 0, none⟩) cap M m (L ++ [s]) N ∧ Chg R w (w1.setCell ⟨d, 2, none⟩ (.slice (some ⟨g, 0, none⟩) (L.length + 1) cap)) ∧ (∀ x, R' x → R x ∨ w.heap.size ≤ x) := by
  have hA := h.ext hE
  have hc1 : Chg (fun x => (Value.slice A L.length a).ownBlock = some x) wA w1 := chg_grown hg
  have hB1 : Blk w1 d 43 _ := hc1.blk hA.blk fun e => own_type hA.ks hA.blk (by decide) e
  have hns : w1.ownsRow 0 3 1 (.slice M N.length m) N.length (numC N) := hc1.own hA.ns fun x hx e => by
    rcases hA.ks.2 with ⟨hv, _⟩ | ⟨g', cap', cur, hv, _, h3, _⟩
    · injection hv with e1; subst e1; cases e
    · injection hv with e1
      subst e1
      injection e with e
      subst e
      exact own_type hA.ns (show Blk wA g' _ cur from h3) (by decide) hx
  have hc2 : Chg (fun x => x = d) w1 (w1.setCell ⟨d, 2, none⟩ (.slice (some ⟨g, 0, none⟩) (L.length + 1) cap)) := chg_one w1 ⟨d, 2, none⟩ _
  have hlen : (L ++ [s]).length = L.length + 1 := by simp
  have hR : ∀ x, R x ∨ x = g → R x ∨ w.heap.size ≤ x := fun x hx => by
    rcases hx with hx | rfl
    · exact .inl hx
    · rcases hl with hl | hl
      · cases A with
        | none => cases hl
        | some y => injection hl with hl; rw [← hl]; exact .inl (h.inK y rfl)
      · right; rw [hl]; exact hE.size
  have hOwn : ∀ x, (Value.slice A L.length a).ownBlock = some x → R x := fun x hx => by
    cases A with
    | none => cases hx
    | some y => injection hx with hx; rw [← hx]; exact h.inK y rfl
  refine ⟨fun x => R x ∨ x = g, ⟨?_, ?_, ?_, .inl h.inD, fun x hx => by injection hx with hx; subst hx; exact .inr rfl, fun x hx => .inl (h.inN x hx), fun x hx => ?_⟩, ?_, hR⟩
  · rw [hlen]; exact hB1.set_ 2 _
  · rw [hlen]
    have e : txtC (L ++ [s]) = txtC L ++ [.string s] := by simp [txtC]
    rw [e]
    exact hc2.own ho fun x hx e => own_type ho hB1 (by decide) (by rw [hx, e])
  · exact hc2.own hns fun x hx e => own_type hns hB1 (by decide) (by rw [hx, e])
  · rcases hx with hx | rfl
    · exact Nat.lt_of_lt_of_le (h.old x hx) (Nat.le_trans hE.size (Nat.le_trans hc1.size hc2.size))
    · exact Nat.lt_of_lt_of_le hlt hc2.size
  · exact ((Chg.of hE).trans (C := fun x => (Value.slice A L.length a).ownBlock = some x) hc1 fun x hx _ => hOwn x hx).setCell (p := ⟨d, 2, none⟩) (.inl h.inD) _
/-- a number is appended, and the field written -/
theorem RRaw.appNum (h : RRaw w R d most probes A a M m L N) {wA w1 : World} (hE : Ext w wA) {g cap : Nat} {v : Int} (ho : w1.ownsRow 0 3 1 (.slice (some ⟨g, 0, none⟩) (N.length + 1) cap) (N.length + 1) (numC N ++ [.int .i64 v])) (hg : wA.grownBy w1 (Value.slice M N.length m).ownBlock) (hl : (Value.slice M N.length m).ownBlock = some g ∨ g = wA.heap.size) (hlt : g < w1.heap.size) :
    ∃ R' : Nat → Prop, RRaw (w1.setCell ⟨d, 3, none⟩ (.slice (some ⟨g, 0, none⟩) (N.length + 1) cap)) R' d most probes A a (some ⟨g, 0, none⟩) cap L (N ++ [v]) ∧ Chg R w (w1.setCell ⟨d, 3, none⟩ (.slice (some ⟨g, 0, none⟩) (N.length + 1) cap)) ∧ (∀ x, R' x → R x ∨ w.heap.size ≤ x) := by
  have hA := h.ext hE
  have hc1 : Chg (fun x => (Value.slice M N.length m).ownBlock = some x) wA w1 := chg_grown hg
  have hB1 : Blk w1 d 43 _ := hc1.blk hA.blk fun e => own_type hA.ns hA.blk (by decide) e
  have hks : w1.ownsRow 0 9 1 (.slice A L.length a) L.length (txtC L) := hc1.own hA.ks fun x hx e => by
    rcases hA.ns.2 with ⟨hv, _⟩ | ⟨g', cap', cur, hv, _, h3, _⟩
    · injection hv with e1; subst e1; cases e
    · injection hv with e1
      subst e1
      injection e with e
      subst e
      exact own_type hA.ks (show Blk wA g' _ cur from h3) (by decide) hx
  have hc2 : Chg (fun x => x = d) w1 (w1.setCell ⟨d, 3, none⟩ (.slice (some ⟨g, 0, none⟩) (N.length + 1) cap)) := chg_one w1 ⟨d, 3, none⟩ _
  have hlen : (N ++ [v]).length = N.length + 1 := by simp
  have hR : ∀ x, R x ∨ x = g → R x ∨ w.heap.size ≤ x := fun x hx => by
    rcases hx with hx | rfl
    · exact .inl hx
    · rcases hl with hl | hl
      · cases M with
        | none => cases hl
        | some y => injection hl with hl; rw [← hl]; exact .inl (h.inN y rfl)
      · right; rw [hl]; exact hE.size
  have hOwn : ∀ x, (Value.slice M N.length m).ownBlock = some x → R x := fun x hx => by
    cases M with
    | none => cases hx
    | some y => injection hx with hx; rw [← hx]; exact h.inN y rfl
  refine ⟨fun x => R x ∨ x = g, ⟨?_, ?_, ?_, .inl h.inD, fun x hx => .inl (h.inK x hx), fun x hx => by injection hx with hx; subst hx; exact .inr rfl, fun x hx => ?_⟩, ?_, hR⟩
  · rw [hlen]; exact hB1.set_ 3 _
  · exact hc2.own hks fun x hx e => own_type hks hB1 (by decide) (by rw [hx, e])
  · rw [hlen]
    have e : numC (N ++ [v]) = numC N ++ [.int .i64 v] := by simp [numC]
    rw [e]
    exact hc2.own ho fun x hx e => own_type ho hB1 (by decide) (by rw [hx, e])
  · rcases hx with hx | rfl
    · exact Nat.lt_of_lt_of_le (h.old x hx) (Nat.le_trans hE.size (Nat.le_trans hc1.size hc2.size))
    · exact Nat.lt_of_lt_of_le hlt hc2.size
  · exact ((Chg.of hE).trans (C := fun x => (Value.slice M N.length m).ownBlock = some x) hc1 fun x hx _ => hOwn x hx).setCell (p := ⟨d, 3, none⟩) (.inl h.inD) _
end
theorem RRaw.apart {w : World} {R : Nat → Prop} {d most probes a m g k : Nat} {L : List ByteArray} {N : List Int} (h : RRaw w R d most probes (some ⟨g, 0, none⟩) a (some ⟨k, 0, none⟩) m L N) : g ≠ k := fun e => by
  subst e
  rcases h.ks.2 with ⟨hv, _⟩ | ⟨g', cap, cur, hv, _, h3, _⟩
  · cases hv
  · injection hv with e1
    injection e1 with e1
    injection e1 with e1
    subst e1
    exact own_type h.ns (show Blk w g _ cur from h3) (by decide) rfl
/-- .. with its keys in their order -/
structure RIx (w : World) (R : Nat → Prop) (d most probes : Nat) (A : Option Addr) (a : Nat) (M : Option Addr) (m : Nat) (L : List ByteArray) (N : List Int) : Prop extends RRaw w R d most probes A a M m L N where
  len : N.length = L.length
  rises : Rises L
  small : ∀ s ∈ L, s.size ≤ 4096
  most : L.length ≤ most ∧ most ≤ 1048576
theorem RIx.ext {w w' : World} {R : Nat → Prop} {d most probes a m : Nat} {A M : Option Addr} {L : List ByteArray} {N : List Int} (h : RIx w R d most probes A a M m L N) (hw : Ext w w') : RIx w' R d most probes A a M m L N :=
  ⟨h.toRRaw.ext hw, h.len, h.rises, h.small, h.most⟩
theorem RIx.key {w : World} {R : Nat → Prop} {d most probes a m : Nat} {A M : Option Addr} {L : List ByteArray} {N : List Int} (h : RIx w R d most probes A a M m L N) {i : Nat} {s : ByteArray} (hs : L[i]? = some s) : ∃ g, A = some ⟨g, 0, none⟩ ∧ w.cell? ⟨g, i, none⟩ = some (.string s) ∧ w.frozen? ⟨g, i, none⟩ = false := h.toRRaw.key hs
set_option maxRecDepth 100000 in
theorem place_any {w : World} {R : Nat → Prop} {d most probes a m : Nat} {A M : Option Addr} {L : List ByteArray} {N : List Int} (h : RIx w R d most probes A a M m L N) (key : ByteArray) (hk : key.size ≤ 1048576) :
    Calls Try.prog 34 #[.pointer (some ⟨d, 0, none⟩), .string key] w fun e w' => ∃ p : Nat, e = .returned (.int .i64 p) ∧ Cut L key p ∧ Ext w w' := by
  have HI := hide h
  have hn : L.length ≤ 1048576 := by have := h.most; omega
  have a2 : w.cell? ⟨d, 2, none⟩ = some (.slice A L.length a) := h.blk.cell 2
  clear h
  have a2 := cell_ext a2
  go_enter Try.func34, Try.ntmps34
  go_wp2_with fail
  refine wp_region_ext 7 (by kernel_rfl) (by kernel_rfl) (by kernel_rfl) ?_
  iterate 7
    refine wpE_k (by kernel_rfl) (by kernel_rfl) ?_
    apply Exists.intro
    refine ⟨fun w1 hw1 => ?_, fun K hK => ?_⟩
    · go_simp; first | done | rfl
    go_simp; refine hK _ _ ?_; clear hK K
  refine wpE_nil ⟨rfl, by kernel_rfl, fun wq hwq => ?_⟩
  simp only [EndQ]
  refine wpList_nil ?_
  have X1 := hide hwq
  clear hwq a2
  go_wp2_with fail
  go_loopw [5, 6, 7] (fun s5 s6 _ w' => ∃ lo hi : Nat, lo ≤ hi ∧ hi ≤ L.length ∧ s5 = .int .i64 lo ∧ s6 = .int .i64 hi ∧ Hid (∀ (i : Nat) (s : ByteArray), L[i]? = some s → i < lo → cmpB s key < 0) ∧ Hid (∀ (i : Nat) (s : ByteArray), L[i]? = some s → hi ≤ i → 0 ≤ cmpB s key) ∧ Hid (Ext w w')) (fun s5 s6 _ _ => (intOf s6).toNat - (intOf s5).toNat)
  case atStart => exact ⟨0, L.length, by omega, by omega, rfl, rfl, fun _ _ _ h => by omega, fun i s hs h => by have := (List.getElem?_eq_some_iff.1 hs).1; omega, X1.out⟩
  case round =>
    obtain ⟨lo, hi, hlh, hhl, rfl, rfl, hlo, hhi, hX⟩ := hrel
    clear X1
    by_cases hlt : lo < hi
    · have hml : (lo + hi) / 2 < L.length := by omega
      obtain ⟨md, hmd⟩ : ∃ md : Nat, md = (lo + hi) / 2 := ⟨_, rfl⟩
      have hmi : ((lo : Int) + (hi : Int)) / 2 = (md : Int) := by omega
      have HMI := hide hmi
      have hm2 : lo ≤ md ∧ md < hi := by omega
      rw [← hmd] at hml
      have hs := List.getElem?_eq_getElem hml
      obtain ⟨g, rfl, c0, _⟩ := (HI.out.ext hX.out).key hs
      have a2 : wr.cell? ⟨d, 2, none⟩ = some (.slice (some ⟨g, 0, none⟩) L.length a) := (HI.out.ext hX.out).blk.cell 2
      have hsz := HI.out.small _ (List.mem_of_getElem? hs)
      have HB := hide (fun hc => HI.out.rises.below (key := key) hs hc)
      have HA := hide (fun hc => HI.out.rises.above (key := key) hs hc)
      clear hmd hs
      generalize L[md] = s at *
      have HT := hide (ref_texts s key wr (by omega) hk)
      go_wp2_with fail
      refine HT.out.mono ?_
      rintro e w1 ⟨rfl, x1⟩
      have X1 := hide (hX.out.trans x1)
      clear x1 hmi
      by_cases hc : cmpB s key < 0
      · have HB2 := hide (HB.out hc)
        clear HB HA
        generalize cmpB s key = q at *
        go_wp2_with fail
        go_roundw
        case rel => exact ⟨md + 1, hi, by omega, hhl, by rw [HMI.out]; go_num, rfl, HB2.out, hhi.out, X1.out⟩
        case measure => rw [HMI.out]; simp [intOf]; omega
      · have HA2 := hide (HA.out (by omega))
        clear HB HA
        generalize cmpB s key = q at *
        go_wp2_with fail
        go_roundw
        case rel => exact ⟨lo, md, by omega, by omega, rfl, by rw [HMI.out], hlo.out, HA2.out, X1.out⟩
        case measure => rw [HMI.out]; simp [intOf]; omega
    · obtain rfl : lo = hi := by omega
      go_wp2_with fail
      go_ret
      exact ⟨lo, rfl, ⟨hhl, hlo.out, hhi.out⟩, hX.out⟩
/-- where a key is: its place, or -1 -/
def PlaceOf (L : List ByteArray) (key : ByteArray) (r : Int) : Prop := (∃ p : Nat, r = (p : Int) ∧ L[p]? = some key) ∨ (r = -1 ∧ key ∉ L)
set_option maxRecDepth 100000 in
theorem at_any {w : World} {R : Nat → Prop} {d most probes a m : Nat} {A M : Option Addr} {L : List ByteArray} {N : List Int} (h : RIx w R d most probes A a M m L N) (key : ByteArray) (hk : key.size ≤ 1048576) :
    Calls Try.prog 33 #[.pointer (some ⟨d, 0, none⟩), .string key] w fun e w' => ∃ r : Int, e = .returned (.int .i64 r) ∧ PlaceOf L key r ∧ Ext w w' := by
  have HI := hide h
  have HP := hide (place_any h key hk)
  have hn : L.length ≤ 1048576 := by have := h.most; omega
  clear h
  go_enter Try.func33, Try.ntmps33
  go_wp2_with fail
  refine HP.out.mono ?_
  rintro e w1 ⟨p, rfl, hC, x1⟩
  have X1 := hide x1
  have HC := hide hC
  have hpl := hC.le
  have a2 : w1.cell? ⟨d, 2, none⟩ = some (.slice A L.length a) := (HI.out.ext x1).blk.cell 2
  clear x1 hC
  by_cases hp : p < L.length
  · have hs := List.getElem?_eq_getElem hp
    obtain ⟨g, rfl, c0, _⟩ := (HI.out.ext X1.out).key hs
    by_cases he : L[p] = key
    · rw [he] at hs c0
      have HS := hide hs
      clear hs he
      go_wp2_with fail
      go_ret
      exact ⟨p, rfl, .inl ⟨p, rfl, HS.out⟩, X1.out⟩
    · have HS := hide (HC.out.not_mem HI.out.rises (by rw [hs]; simpa using he))
      have he2 : (L[p].toList == key.toList) = false := by simpa using fun e => he ((bytes_toList _ _).1 e)
      clear hs he
      generalize L[p] = s at *
      go_wp2_with fail
      go_ret
      exact ⟨-1, rfl, .inr ⟨rfl, HS.out⟩, X1.out⟩
  · have HS := hide (HC.out.not_mem HI.out.rises (by rw [List.getElem?_eq_none (by omega)]; simp))
    go_wp2_with fail
    go_ret
    exact ⟨-1, rfl, .inr ⟨rfl, HS.out⟩, X1.out⟩
end Go.Proofs.Ytlpbkhdpfmknkaa
