/-
  law of node: lists that are laid anew.
-/
import Derived.Test.YtahdiiaadjdmcaaGreatNgL
namespace Go.Proofs.YtahdiiaadjdmcaaGreat
open Go.RowKit

/-- a row that lies in the blocks P, as it is told -/
def RB (P : Nat → Prop) : World → List Value → List V → Prop := fun w cs r => ∃ A n c, cs = [.slice A n c] ∧ OwnH w P 85 3 n (.slice A n c) (cellsR r)
theorem rows_cells {w : World} {P : Nat → Prop} {A : Option Addr} {n c : Nat} {rows : List (List V)} (h : Told w P A n c rows) : ∃ xs, OwnH w P 28 1 n (.slice A n c) xs ∧ Els (RB P) 1 w xs rows := by
  obtain ⟨h1, xs, h2, h3⟩ := h
  exact ⟨xs, h2, h3⟩
theorem plcR_del (r : List V) : ∀ (rows : List (List V)) (k : Nat), 0 ≤ plcR r rows k → ∃ i, plcR r rows k = ((k + i : Nat) : Int) ∧ i < rows.length ∧ delR r rows = rows.take i ++ rows.drop (i + 1)
  | [], k, h => by simp [plcR] at h
  | s :: l, k, h => by
    unfold plcR at h ⊢
    by_cases hs : sameR s r = true
    · rw [if_pos hs]
      exact ⟨0, by simp, by simp, by unfold delR; rw [if_pos hs]; simp⟩
    · rw [if_neg hs] at h ⊢
      obtain ⟨i, h1, h2, h3⟩ := plcR_del r l (k + 1) h
      refine ⟨i + 1, by rw [h1]; congr 1; omega, by simp only [List.length_cons]; omega, ?_⟩
      unfold delR
      rw [if_neg hs, h3]
      simp
theorem LAt.rb {w : World} {P : Nat → Prop} {A : Option Addr} {n c : Nat} {rows : List (List V)} (h : Told w P A n c rows) : LAt (RB P) 1 w A n rows := by
  obtain ⟨h1, xs, h2, h3⟩ := h
  exact ⟨h1, xs, h3, Sl.own h2.own⟩
set_option maxRecDepth 100000 in
theorem has_inB (xs : List (List V)) (r : List V) (A B : Option Addr) (n m c d : Nat) (w : World) (ha : LAt RRow 1 w A n xs) (hb : RowAt w B m r) (hn : n ≤ 140737488355328) (hr : ∀ s ∈ xs, s.length ≤ 140737488355328) :
    Calls Tryz.prog 19 #[.slice A n c, .slice B m d] w fun e w' => e = .returned (.bool (inB xs r)) ∧ Ext w w' := by
  have H := hide (place_rows xs r A B n m c d w ha hb hn hr)
  have hp := plcR_iff r xs 0
  cases hi : inB xs r with
  | true =>
    have h0 := hp.2 (inB_iff.1 hi)
    clear ha hb hr hp hi
    generalize plcR r xs 0 = p at *
    go_enter Tryz.func19, Tryz.ntmps19
    go_wp2_with fail
    refine H.out.mono ?_
    rintro e w1 ⟨rfl, h1⟩
    have E1 := hide h1; clear h1
    go_wp2_with fail
    go_ret
    exact ⟨ret_bool (by simp), E1.out⟩
  | false =>
    have h0 : ¬ 0 ≤ plcR r xs 0 := fun h => by
      have := inB_iff.2 (hp.1 h)
      rw [hi] at this; cases this
    clear ha hb hr hp hi
    generalize plcR r xs 0 = p at *
    go_enter Tryz.func19, Tryz.ntmps19
    go_wp2_with fail
    refine H.out.mono ?_
    rintro e w1 ⟨rfl, h1⟩
    have E1 := hide h1; clear h1
    go_wp2_with fail
    go_ret
    exact ⟨ret_bool (by simp; omega), E1.out⟩
theorem RB.grown {w w' : World} {P Q : Nat → Prop} {cs : List Value} {r : List V} (h : RB P w cs r) {base : Nat} {v2 : Value} {n2 : Nat} {xs2 : List Value} (h2 : w.ownsRow base 28 1 v2 n2 xs2) (hg : w.grownBy w' v2.ownBlock) (hq : ∀ b, P b → Q b) : RB Q w' cs r := by
  obtain ⟨A, n, c, e, ho⟩ := h
  exact ⟨A, n, c, e, (ho.grown h2 (by decide) hg).mono hq⟩
/-- rows behind rows of one's own -/
theorem Told.app {w w' : World} {P B : Nat → Prop} {A A' : Option Addr} {n m c c' : Nat} {rows rows2 : List (List V)} {xs news : List Value} (ho : OwnH w B 28 1 n (.slice A n c) xs) (he : Els (RB P) 1 w xs rows) (hn : Els (RB P) 1 w news rows2)
    (h8 : OwnH w' (fun b => B b ∨ b = w.heap.size) 28 1 (n + m) (.slice A' (n + m) c') (xs ++ news)) (G : w.grownBy w' (Value.slice A n c).ownBlock) (hB : ∀ b, B b → P b) : Told w' (And' P w.heap.size w'.heap.size) A' (n + m) c' (rows ++ rows2) := by
  have k1 := ho.own.1
  have k2 := h8.own.1
  have k3 := he.len
  have k4 := hn.len
  rw [List.length_append] at k2
  refine ⟨by rw [List.length_append]; omega, _, ⟨h8.own, fun g hg => (h8.inB g hg).elim (fun h => .inl (hB g h)) fun e => .inr ⟨by omega, h8.lt g hg⟩⟩, ?_⟩
  exact (he.append hn).mono fun cs r hr => hr.grown ho.own G fun b hb => .inl hb
/-- a fresh copy of rows -/
theorem told_copy {w w' : World} {rows : List (List V)} {e : Ending} (h : RetRows w rows e w') : ∃ A c xs, e = .returned (.slice A rows.length c) ∧ Ext w w' ∧ OwnH w' (fun b => w.heap.size ≤ b ∧ b < w'.heap.size) 28 1 rows.length (.slice A rows.length c) xs ∧ Els (RB fun b => w.heap.size ≤ b ∧ b < w'.heap.size) 1 w' xs rows := by
  obtain ⟨A, n, c, cells, rfl, rfl, h3, h4, h5⟩ := h
  refine ⟨A, c, cells, rfl, h5, ⟨own_base0 h3 (Nat.zero_le _), fun g hg => h3.lt g hg⟩, h4.mono fun cs r hx => ?_⟩
  obtain ⟨A, n, c, e, ho⟩ := hx
  exact ⟨A, n, c, e, own_base0 ho (Nat.zero_le _), fun g hg => ho.lt g hg⟩
theorem ArgR.rb {w : World} {A : Option Addr} {n c : Nat} {r : List V} {base : Nat} (h : w.ownsRow base 85 3 (.slice A n c) n (cellsR r)) : RB (fun b => base ≤ b ∧ b < w.heap.size) w [.slice A n c] r := ⟨A, n, c, rfl, own_base0 h (Nat.zero_le _), fun g hg => h.lt g hg⟩
theorem els_single {w : World} {P : Nat → Prop} {u : Value} {r : List V} (h : RB P w [u] r) : Els (RB P) 1 w [u] [r] := Els.single rfl (fun v hv => by
  obtain ⟨A, n, c, e, -⟩ := h
  obtain rfl := List.mem_singleton.1 hv
  injection e with e
  rw [e]; rfl) h
/-- a source's row, and a side's row, on and off: the lists -/
theorem meet_side {K : NK} (h3 : K.kind = 3) {s : NSt} {on : Bool} {r : List V} (hz : (turnN K s on 2 r).2.2.2 = 0) : (turnN K s on 2 r).1.ons = s.ons ∧ (on = true → (turnN K s on 2 r).1.sides = s.sides ++ [r]) ∧ (on = false → r ∈ s.sides ∧ (turnN K s on 2 r).1.sides = delR r s.sides) := by
  unfold turnN at hz ⊢
  rw [if_pos ⟨rfl, h3⟩] at hz ⊢
  by_cases hf : fitsR K.side.length r = true
  · rw [if_pos hf] at hz ⊢
    unfold sideN at hz ⊢
    cases on with
    | true =>
      rw [if_pos rfl] at hz ⊢
      by_cases h1 : inB s.sides r = true
      · rw [if_pos h1] at hz; exact absurd hz (by show (191 : Int) ≠ 0; omega)
      · rw [if_neg h1] at hz ⊢
        by_cases h2 : s.sides.length < K.most
        · rw [if_pos h2]; exact ⟨rfl, fun _ => rfl, fun h => by cases h⟩
        · rw [if_neg h2] at hz; exact absurd hz (by show (31 : Int) ≠ 0; omega)
    | false =>
      rw [if_neg (by decide)] at hz ⊢
      by_cases h1 : inB s.sides r = true
      · rw [if_pos h1]; exact ⟨rfl, fun h => (by cases h), fun _ => ⟨inB_iff.1 h1, rfl⟩⟩
      · rw [if_neg h1] at hz; exact absurd hz (by show (192 : Int) ≠ 0; omega)
  · rw [if_neg hf] at hz; exact absurd hz (by show (62 : Int) ≠ 0; omega)
theorem meet_source {K : NK} (h3 : K.kind = 3) {s : NSt} {on : Bool} {f : Int} {r : List V} (hf2 : f ≠ 2) (hz : (turnN K s on f r).2.2.2 = 0) : (turnN K s on f r).1.sides = s.sides ∧ (on = true → (turnN K s on f r).1.ons = s.ons ++ [r]) ∧ (on = false → r ∈ s.ons ∧ (turnN K s on f r).1.ons = delR r s.ons) := by
  unfold turnN at hz ⊢
  rw [if_neg (fun h => hf2 h.1)] at hz ⊢
  by_cases hf1 : f ≠ 1
  · rw [if_pos hf1] at hz; exact absurd hz (by show (190 : Int) ≠ 0; omega)
  · rw [if_neg hf1] at hz ⊢
    by_cases hf : fitsR K.inn r = true
    · rw [if_pos hf] at hz ⊢
      rw [if_neg (show ¬ K.kind = 2 by omega), if_pos h3] at hz ⊢
      unfold sourceN at hz ⊢
      cases on with
      | true =>
        rw [if_pos rfl] at hz ⊢
        by_cases h1 : inB s.ons r = true
        · rw [if_pos h1] at hz; exact absurd hz (by show (191 : Int) ≠ 0; omega)
        · rw [if_neg h1] at hz ⊢
          by_cases h2 : s.ons.length < K.most
          · rw [if_pos h2]
            by_cases h4 : inB s.sides (keyR K.side r) = true
            · rw [if_pos h4]; exact ⟨rfl, fun _ => rfl, fun h => by cases h⟩
            · rw [if_neg h4]; exact ⟨rfl, fun _ => rfl, fun h => by cases h⟩
          · rw [if_neg h2] at hz; exact absurd hz (by show (31 : Int) ≠ 0; omega)
      | false =>
        rw [if_neg (by decide)] at hz ⊢
        by_cases h1 : inB s.ons r = true
        · rw [if_pos h1]
          by_cases h4 : inB s.live r = true
          · rw [if_pos h4]; exact ⟨rfl, fun h => (by cases h), fun _ => ⟨inB_iff.1 h1, rfl⟩⟩
          · rw [if_neg h4]; exact ⟨rfl, fun h => (by cases h), fun _ => ⟨inB_iff.1 h1, rfl⟩⟩
        · rw [if_neg h1] at hz; exact absurd hz (by show (192 : Int) ≠ 0; omega)
    · rw [if_neg hf] at hz; exact absurd hz (by show (62 : Int) ≠ 0; omega)
/-- how many of the first rows have their side's row on -/
def liveM (K : NK) (s : NSt) (i : Nat) : Nat := ((s.ons.take i).filter fun r => inB s.sides (keyR K.side r)).length
theorem liveM_next (K : NK) (s : NSt) {i : Nat} {r : List V} (h : s.ons[i]? = some r) : liveM K s (i + 1) = liveM K s i + if inB s.sides (keyR K.side r) = true then 1 else 0 := by
  unfold liveM
  rw [List.take_add_one, h]
  simp only [Option.toList_some, List.filter_append, List.length_append, List.filter_cons, List.filter_nil]
  split <;> rfl
theorem liveM_le (K : NK) (s : NSt) (i : Nat) : liveM K s i ≤ i := by
  unfold liveM
  have := List.length_filter_le (fun r => inB s.sides (keyR K.side r)) (s.ons.take i)
  rw [List.length_take] at this
  omega
theorem liveM_all {K : NK} {s : NSt} (h : NOk K s) (h3 : K.kind = 3) : liveM K s s.ons.length = s.live.length := by
  unfold liveM
  rw [List.take_length]
  have hm : ∀ r, r ∈ s.ons.filter (fun r => inB s.sides (keyR K.side r)) ↔ r ∈ s.live := fun r => by
    rw [List.mem_filter, inB_iff, h.meet h3]
  exact Nat.le_antisymm (nodup_sub_len (h.nd.filter _) fun r hr => (hm r).1 hr) (nodup_sub_len h.lnd fun r hr => (hm r).2 hr)
theorem live_meet {K : NK} {s : NSt} (h : NOk K s) (h3 : K.kind = 3) {r : List V} (hr : r ∈ s.ons) : inB s.live r = inB s.sides (keyR K.side r) := by
  apply Bool.eq_iff_iff.2
  rw [inB_iff, inB_iff, h.meet h3]
  exact ⟨fun h => h.2, fun h => ⟨hr, h⟩⟩
end Go.Proofs.YtahdiiaadjdmcaaGreat
