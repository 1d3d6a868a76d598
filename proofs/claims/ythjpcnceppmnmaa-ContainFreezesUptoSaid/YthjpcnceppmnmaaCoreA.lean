/-
  slices.Clone: the same cells in a row of its own.
  slices.Delete at atoms: one element is struck out, in place.
  The core, as plain data.
  What Find says of two queries, in plain words; what a core is: equal to its query, and of one length with the cores of all equal queries.
  contain.without: a query without one of its atoms.
-/
import Derived.Test.YthjpcnceppmnmaaRefA
import Derived.Test.YthjpcnceppmnmaaLayW
import Derived.Deep.DeepAppendRoom
import Derived.Test.YthjpcnceppmnmaaFindW
import Derived.Test.YthjpcnceppmnmaaPlainA
import Derived.Deep.RegionHeld3
import Derived.Deep.AppendLies
import Derived.IntWalk
namespace Go.Proofs.Ythjpcnceppmnmaa
open Go.RowKit

set_option maxRecDepth 100000 in
theorem cloneS (cells : List Value) (A : Option Addr) (n c : Nat) (w : World) (ha : Sl w A n 1 cells) (h1 : OneCells cells) (hn : n ≤ 16777216) :
    Calls Try.prog 50 #[.slice A n c] w (RetOwn w 9 1 n cells) := by
  obtain ⟨i0, hi0, hz0, hz1, hz2⟩ := info_parts infoS
  have Ha := hide ha; have H1 := hide h1
  have heq : ∀ (w : World) (a : Option Addr) (n c n' c' : Nat), (binOp .eql 22 (.slice a n c) (.slice none n' c')).run Try.prog w = .ok (.bool a.isNone) w := fun w a n c n' c' => Lib.run_eql_slice_nil w _ _ a n c n' c' Try.underlying22
  clear ha h1
  cases A with
  | none =>
    have hn0 : n = 0 := by
      rcases Nat.eq_zero_or_pos n with h | h
      · exact h
      · obtain ⟨b, off, hA, _⟩ := Ha.out.2 h; cases hA
    subst hn0
    have hc : cells = [] := List.eq_nil_of_length_eq_zero (by have := Ha.out.1; omega)
    subst hc
    go_enter Try.func50, Try.ntmps50
    go_wp2_with fail
    go_ret
    exact ⟨none, 0, rfl, World.ownsRow_nil _ _ _ _, Ext.refl _⟩
  | some a =>
    have hown := hide (show (w.alloc (.cells #[] 9)).ownsRow w.heap.size 9 1 (.slice (some ⟨w.heap.size, 0, none⟩) 0 0) 0 [] from ⟨rfl, .inr ⟨w.heap.size, 0, #[], rfl, Nat.le_refl _, heap_alloc_new w _, Nat.le_refl _, by unfold maxLen; omega, rfl, rfl⟩⟩)
    go_enter Try.func50, Try.ntmps50
    go_wp2_with (at_builtin; refine wpList_append_sl rfl (.tmp 5) (.tmp 6) _ rfl 9 i0 _ 1 16 Try.underlying22 hi0 hz0 hz1 hz2 rfl (by omega) w (Ext.alloc _ _) _ 0 [] rfl hown.out _ n c cells rfl (Ha.out.ext (Ext.alloc _ _)) H1.out (by unfold maxLen; omega) (by omega) ?_; intro A8 c8 w8 own8 E8 G8 L8)
    go_ret
    have o := own8.out
    simp only [Nat.zero_add, List.nil_append] at o
    exact ⟨A8, c8, by simp, o, E8.out⟩

set_option maxRecDepth 100000 in
theorem cloneT (cells : List Value) (A : Option Addr) (n c : Nat) (w : World) (ha : Sl w A n 4 cells) (h1 : OneCells cells) (hn : n ≤ 16777216) :
    Calls Try.prog 51 #[.slice A n c] w (RetOwn w 76 4 n cells) := by
  obtain ⟨i0, hi0, hz0, hz1, hz2⟩ := info_parts infoT
  have Ha := hide ha; have H1 := hide h1
  have heq : ∀ (w : World) (a : Option Addr) (n c n' c' : Nat), (binOp .eql 41 (.slice a n c) (.slice none n' c')).run Try.prog w = .ok (.bool a.isNone) w := fun w a n c n' c' => Lib.run_eql_slice_nil w _ _ a n c n' c' Try.underlying41
  clear ha h1
  cases A with
  | none =>
    have hn0 : n = 0 := by
      rcases Nat.eq_zero_or_pos n with h | h
      · exact h
      · obtain ⟨b, off, hA, _⟩ := Ha.out.2 h; cases hA
    subst hn0
    have hc : cells = [] := List.eq_nil_of_length_eq_zero (by have := Ha.out.1; omega)
    subst hc
    go_enter Try.func51, Try.ntmps51
    go_wp2_with fail
    go_ret
    exact ⟨none, 0, rfl, World.ownsRow_nil _ _ _ _, Ext.refl _⟩
  | some a =>
    have hown := hide (show (w.alloc (.cells #[] 76)).ownsRow w.heap.size 76 4 (.slice (some ⟨w.heap.size, 0, none⟩) 0 0) 0 [] from ⟨rfl, .inr ⟨w.heap.size, 0, #[], rfl, Nat.le_refl _, heap_alloc_new w _, Nat.le_refl _, by unfold maxLen; omega, rfl, rfl⟩⟩)
    go_enter Try.func51, Try.ntmps51
    go_wp2_with (at_builtin; refine wpList_append_sl rfl (.tmp 5) (.tmp 6) _ rfl 76 i0 _ 4 48 Try.underlying41 hi0 hz0 hz1 hz2 rfl (by omega) w (Ext.alloc _ _) _ 0 [] rfl hown.out _ n c cells rfl (Ha.out.ext (Ext.alloc _ _)) H1.out (by unfold maxLen; omega) (by omega) ?_; intro A8 c8 w8 own8 E8 G8 L8)
    go_ret
    have o := own8.out
    simp only [Nat.zero_add, List.nil_append] at o
    exact ⟨A8, c8, by simp, o, E8.out⟩

set_option maxRecDepth 100000 in
theorem cloneA (cells : List Value) (A : Option Addr) (n c : Nat) (w : World) (ha : Sl w A n 2 cells) (h1 : OneCells cells) (hn : n ≤ 16777216) :
    Calls Try.prog 80 #[.slice A n c] w (RetOwn w 43 2 n cells) := by
  obtain ⟨i0, hi0, hz0, hz1, hz2⟩ := info_parts infoA
  have Ha := hide ha; have H1 := hide h1
  have heq : ∀ (w : World) (a : Option Addr) (n c n' c' : Nat), (binOp .eql 23 (.slice a n c) (.slice none n' c')).run Try.prog w = .ok (.bool a.isNone) w := fun w a n c n' c' => Lib.run_eql_slice_nil w _ _ a n c n' c' Try.underlying23
  clear ha h1
  cases A with
  | none =>
    have hn0 : n = 0 := by
      rcases Nat.eq_zero_or_pos n with h | h
      · exact h
      · obtain ⟨b, off, hA, _⟩ := Ha.out.2 h; cases hA
    subst hn0
    have hc : cells = [] := List.eq_nil_of_length_eq_zero (by have := Ha.out.1; omega)
    subst hc
    go_enter Try.func80, Try.ntmps80
    go_wp2_with fail
    go_ret
    exact ⟨none, 0, rfl, World.ownsRow_nil _ _ _ _, Ext.refl _⟩
  | some a =>
    have hown := hide (show (w.alloc (.cells #[] 43)).ownsRow w.heap.size 43 2 (.slice (some ⟨w.heap.size, 0, none⟩) 0 0) 0 [] from ⟨rfl, .inr ⟨w.heap.size, 0, #[], rfl, Nat.le_refl _, heap_alloc_new w _, Nat.le_refl _, by unfold maxLen; omega, rfl, rfl⟩⟩)
    go_enter Try.func80, Try.ntmps80
    go_wp2_with (at_builtin; refine wpList_append_sl rfl (.tmp 5) (.tmp 6) _ rfl 43 i0 _ 2 40 Try.underlying23 hi0 hz0 hz1 hz2 rfl (by omega) w (Ext.alloc _ _) _ 0 [] rfl hown.out _ n c cells rfl (Ha.out.ext (Ext.alloc _ _)) H1.out (by unfold maxLen; omega) (by omega) ?_; intro A8 c8 w8 own8 E8 G8 L8)
    go_ret
    have o := own8.out
    simp only [Nat.zero_add, List.nil_append] at o
    exact ⟨A8, c8, by simp, o, E8.out⟩

end Go.Proofs.Ythjpcnceppmnmaa

namespace Go.Proofs.Ythjpcnceppmnmaa
open Go.RowKit

theorem own_takeS {w : World} {base : Nat} {e : TypeId} {s n c : Nat} {A : Option Addr} {xs : List Value} (h : w.ownsRow base e s (.slice A n c) n xs) (k : Nat) (hk : k ≤ n) : w.ownsRow base e s (.slice A k c) k (xs.take (k * s)) := by
  have hks : k * s ≤ n * s := Nat.mul_le_mul_right _ hk
  rcases h.2 with ⟨h1, h2⟩ | ⟨g, cap, cur, h1, h2, h3, h4, h5, h6, h7⟩
  · injection h1 with e1 e2 e3
    subst e2
    obtain rfl : k = 0 := by omega
    refine ⟨by simp, .inl ⟨by rw [e1, e3], rfl⟩⟩
  · injection h1 with e1 e2 e3
    subst e1; subst e3
    refine ⟨by rw [List.length_take, h.1]; omega, .inr ⟨g, c, cur, rfl, h2, h3, by omega, h5, h6, ?_⟩⟩
    rw [← h7, List.take_take]
    congr 1
    omega

theorem zeroA (w : World) : (zeroValue 43).run Try.prog w = .ok (.agg #[.string .empty, .slice none 0 0]) w := by kernel_rfl
theorem run_clear_atom (w : World) (ty : TypeId) (b o c : Nat) (v0 v1 : Value) (h0 : w.cell? ⟨b, o, none⟩ = some v0) (h1 : w.cell? ⟨b, o + 1, none⟩ = some v1) (f0 : w.frozen? ⟨b, o, none⟩ = false) (f1 : w.frozen? ⟨b, o + 1, none⟩ = false) :
    (Builtin.clear_ #[23] ty #[.slice (some ⟨b, o, none⟩) 1 c]).run Try.prog w = .ok (.tuple #[]) ((w.setCell ⟨b, o, none⟩ (.string .empty)).setCell ⟨b, o + 1, none⟩ (.slice none 0 0)) := by
  have hu := Try.underlying23
  have hz := zeroA
  simp [Builtin.clear_, go_sem, hu, hz, h0, h1, f0, f1, Builtin.zeroCells]
/-- behind the row's length its block may be written over -/
theorem own_beyond {w : World} {base g : Nat} {e : TypeId} {s n c : Nat} {xs : List Value} (h : w.ownsRow base e s (.slice (some ⟨g, 0, none⟩) n c) n xs) (j : Nat) (hj : n * s ≤ j) (u : Value) : (w.setCell ⟨g, j, none⟩ u).ownsRow base e s (.slice (some ⟨g, 0, none⟩) n c) n xs := by
  refine ⟨h.1, ?_⟩
  rcases h.2 with ⟨h1, _⟩ | ⟨g', cap, cur, h1, h2, h3, h4, h5, h6, h7⟩
  · cases h1
  · cases h1
    have hb : Blk w g e cur := h3
    refine .inr ⟨g, c, cur.setIfInBounds j u, rfl, h2, hb.set_ j u, h4, h5, by simpa using h6, ?_⟩
    rw [← h7, Array.toList_setIfInBounds, List.take_set_of_le hj]

theorem ExtM.self {g : Nat} {a w : World} (h : ExtM g a w) (i : Nat) (u : Value) : ExtM g a (w.setCell ⟨g, i, none⟩ u) :=
  h.trans ⟨rfl, rfl, rfl, by simp, fun k _ hk => Below.heap_setCell _ _ _ _ (fun e => hk (by rw [e]))⟩
theorem own_room {w : World} {base g : Nat} {e : TypeId} {s n c : Nat} {xs : List Value} (h : w.ownsRow base e s (.slice (some ⟨g, 0, none⟩) n c) n xs) (j : Nat) (hj : j < c * s) : ∃ v, w.cell? ⟨g, j, none⟩ = some v ∧ w.frozen? ⟨g, j, none⟩ = false := by
  rcases h.2 with ⟨h1, _⟩ | ⟨g', cap, cur, h1, h2, h3, h4, h5, h6, h7⟩
  · cases h1
  · cases h1
    have hb : Blk w g e cur := h3
    have hl : j < cur.size := by simpa [h6] using hj
    exact ⟨cur[j], by rw [hb.cell j]; exact Array.getElem?_eq_getElem hl, hb.frozen j⟩

set_option maxHeartbeats 2000000 in
set_option maxRecDepth 100000 in
theorem delete_atoms (cells : List Value) (g c n i base : Nat) (w : World) (ho : w.ownsRow base 43 2 (.slice (some ⟨g, 0, none⟩) n c) n cells) (hi : i < n) (hn : n ≤ 16777216) (h1 : OneCells cells) :
    Calls Try.prog 79 #[.slice (some ⟨g, 0, none⟩) n c, .int .i64 (i : Int), .int .i64 ((i + 1 : Nat) : Int)] w fun e w' => e = .returned (.slice (some ⟨g, 0, none⟩) (n - 1) c) ∧ w'.ownsRow base 43 2 (.slice (some ⟨g, 0, none⟩) (n - 1) c) (n - 1) (cells.take (i * 2) ++ cells.drop ((i + 1) * 2)) ∧ w.grownBy w' (some g) := by
  obtain ⟨i0, hi0, hz0, hz1, hz2'⟩ := info_parts infoA
  have hc : n ≤ c := by
    rcases ho.2 with ⟨h1, _⟩ | ⟨g', cap, cur, hv, _, _, h4, _⟩
    · cases h1
    · injection hv with _ _ h; omega
  have hl : cells.length = n * 2 := ho.1
  obtain ⟨ad, had, hnews⟩ : ∃ ad : Addr, (if c = i + 1 then (some ⟨g, 0, none⟩ : Option Addr) else some ⟨g, (i + 1) * 2, none⟩) = some ad ∧ ∀ j u, (cells.drop ((i + 1) * 2))[j]? = some u → w.cell? (ad.add j) = some u := by
    by_cases h : c = i + 1
    · refine ⟨⟨g, 0, none⟩, by rw [if_pos h], fun j u hu => ?_⟩
      rw [List.drop_of_length_le (by omega)] at hu
      simp at hu
    · refine ⟨⟨g, (i + 1) * 2, none⟩, by rw [if_neg h], fun j u hu => ?_⟩
      rw [List.getElem?_drop] at hu
      obtain ⟨b, off, hA, hat⟩ := (Sl.own ho).2 (by omega)
      injection hA with hA
      injection hA with hb ho'
      subst hb; subst ho'
      rw [add_flat]
      have := hat _ _ hu
      simpa using this
  have Hn := hide hnews; clear hnews
  have Ho := hide ho; clear ho
  have hne : ((i : Int) == ((i + 1 : Nat) : Int)) = false := by simp; omega
  go_enter Try.func79, Try.ntmps79
  go_wp2_with fail
  have hic : i ≤ c := by omega
  have hy1 : (0 : Int) ≤ (i : Int) + 1 := by omega
  have hy2 : (i : Int) + 1 ≤ (n : Int) := by omega
  have hy3 : ((i : Int) + 1).toNat = i + 1 := by omega
  refine wp_region_ext 6 (by kernel_rfl) (by kernel_rfl) (by kernel_rfl) ?_
  iterate 6
    refine wpE_k (by kernel_rfl) (by kernel_rfl) ?_
    apply Exists.intro
    refine ⟨fun w1 hw1 => ?_, fun K hK => ?_⟩
    · go_simp; first | done | rfl
    go_simp; refine hK _ _ ?_; clear hK K
  refine wpE_nil ⟨rfl, by kernel_rfl, fun w1 hw1 => ?_⟩
  simp only [EndQ, List.drop]
  clear hic hy1 hy2 hy3
  have HW := hide hw1; clear hw1
  have e1 : i + (n - (i + 1)) = n - 1 := by omega
  have e2 : n - (n - 1) = 1 := by omega
  have E1 := hide e1; have E2 := hide e2; clear e1 e2
  have Hout := hide (show ∀ w2 : World, w2.ownsRow base 43 2 (.slice (some ⟨g, 0, none⟩) (i + (n - (i + 1))) c) (i + (n - (i + 1))) (cells.take (i * 2) ++ cells.drop ((i + 1) * 2)) → ∃ v0 v1, w2.cell? ⟨g, (n - 1) * 2, none⟩ = some v0 ∧ w2.cell? ⟨g, (n - 1) * 2 + 1, none⟩ = some v1 ∧ w2.frozen? ⟨g, (n - 1) * 2, none⟩ = false ∧ w2.frozen? ⟨g, (n - 1) * 2 + 1, none⟩ = false from fun w2 h => by
    obtain ⟨v0, a1, a2⟩ := own_room h ((n - 1) * 2) (by omega)
    obtain ⟨v1, a3, a4⟩ := own_room h ((n - 1) * 2 + 1) (by omega)
    exact ⟨v0, v1, a1, a3, a2, a4⟩)
  go_wp2_with (at_builtin; refine wpList_append_own_spare w1 rfl (.tmp 22) (.tmp 25) _ rfl base 43 i0 2 Try.underlying23 hi0 hz1 g i c (cells.take (i * 2)) rfl (own_takeS (own_ext Ho.out HW.out) i (by omega)) ad (n - (i + 1)) (c - (i + 1)) (cells.drop ((i + 1) * 2)) rfl (by rw [List.length_drop]; omega) (fun j u hu => HW.out.cell (Hn.out j u hu)) (fun u hu => h1 u (List.mem_of_mem_drop hu)) (by omega) ?_; intro w2 hown2 hgrow2; obtain ⟨v0, v1, a1, a2, a3, a4⟩ := Hout.out w2 hown2; have HO2 := hide hown2; have HG2 := hide hgrow2; clear hown2 hgrow2; rw [E1.out]; have e2 := E2.out; have hcl := fun ty c' => run_clear_atom w2 ty g ((n - 1) * 2) c' v0 v1 a1 a2 a3 a4)
  go_ret
  have o := HO2.out
  rw [E1.out] at o
  exact ⟨rfl, own_beyond (own_beyond o _ (Nat.le_refl _) _) _ (Nat.le_succ _) _, (((ExtM.of HW.out).trans HG2.out).self _ _).self _ _⟩
end Go.Proofs.Ythjpcnceppmnmaa

namespace Go.Proofs.Ythjpcnceppmnmaa
open Go.RowKit

/-- the query without its i-th atom -/
def withoutQ (q : Qy) (i : Nat) : Qy := ⟨q.name, q.head, q.atoms.take i ++ q.atoms.drop (i + 1)⟩
/-- it can be left out -/
def outB (q : Qy) (i : Nat) : Bool := decide (shapeQ (withoutQ q i) = 0) && (findR q (withoutQ q i)).2.1
def firstOut (q : Qy) (i : Nat) : Nat → Option Nat
  | 0 => none
  | k + 1 => if outB q i then some i else firstOut q (i + 1) k
def coreP : Nat → Qy → Qy
  | 0, q => q
  | k + 1, q => match firstOut q 0 q.atoms.length with
    | some i => coreP k (withoutQ q i)
    | none => q
def coreR (q : Qy) : Qy × Int := if shapeQ q ≠ 0 then (⟨.empty, [], []⟩, shapeQ q) else (coreP q.atoms.length q, 0)
theorem firstOut_lt (q : Qy) : ∀ (k i j : Nat), firstOut q i k = some j → i ≤ j ∧ j < i + k
  | 0, i, j, h => by cases h
  | k + 1, i, j, h => by
    simp only [firstOut] at h
    split at h
    · injection h with h; omega
    · have := firstOut_lt q k (i + 1) j h; omega
theorem withoutQ_len {q : Qy} {i : Nat} (h : i < q.atoms.length) : (withoutQ q i).atoms.length + 1 = q.atoms.length := by
  simp only [withoutQ, List.length_append, List.length_take, List.length_drop]; omega
end Go.Proofs.Ythjpcnceppmnmaa

namespace Go.Proofs.Ythjpcnceppmnmaa

theorem nodup_of_dbl {l : List ByteArray} (h : dblB l = false) : l.Nodup := by
  have h1 : dblI l 0 l < 0 := by
    unfold dblB at h
    have := of_decide_eq_false h
    omega
  have h2 := (dblI_neg l l 0 rfl).1 h1
  unfold List.Nodup
  rw [List.pairwise_iff_getElem]
  intro i j hi hj hij e
  have h3 := h2 j l[j] (Nat.zero_le _) (List.getElem?_eq_getElem hj)
  have h4 : memB (l.take j) l[j] = true := by
    rw [memB_iff, ← e, List.mem_take_iff_getElem]
    exact ⟨i, by omega, rfl⟩
  rw [h4] at h3; cases h3
theorem dbl_of_nodup {l : List ByteArray} (h : l.Nodup) : dblB l = false := by
  unfold dblB
  rw [decide_eq_false_iff_not]
  have : dblI l 0 l < 0 := (dblI_neg l l 0 rfl).2 fun j x _ hx => by
    cases hm : memB (l.take j) x with
    | false => rfl
    | true =>
      rw [memB_iff, List.mem_take_iff_getElem] at hm
      obtain ⟨i, hi, e⟩ := hm
      obtain ⟨hj, e2⟩ := List.getElem?_eq_some_iff.1 hx
      unfold List.Nodup at h
      rw [List.pairwise_iff_getElem] at h
      exact absurd (e.trans e2.symm) (h i j (by omega) hj (by omega))
  omega

theorem name_some {s : ByteArray} (h : nameB s = true) : s.toList.isEmpty = false := by
  rw [ByteArray.toList_eq]
  unfold nameB headB at h
  cases hl : s.data.toList with
  | nil => rw [hl] at h; simp at h
  | cons a r => rfl

theorem mem_addTs (x : ByteArray) : ∀ (ts : List Tm) (acc : List ByteArray), x ∈ addTs acc ts ↔ x ∈ acc ∨ ∃ t ∈ ts, noVar t = false ∧ t.v = x
  | [], acc => by simp [addTs]
  | t :: ts, acc => by
    have e : addTs acc (t :: ts) = addTs (addT acc t) ts := rfl
    rw [e, mem_addTs x ts]
    have h1 : x ∈ addT acc t ↔ x ∈ acc ∨ (noVar t = false ∧ t.v = x) := by
      unfold addT
      by_cases hn : noVar t = true
      · simp [hn]
      · have hn' : noVar t = false := by simpa using hn
        simp only [hn', Bool.false_eq_true, if_false, true_and]
        by_cases hm : memB acc t.v = true
        · simp only [hm, if_true]
          exact ⟨.inl, fun h => h.elim id fun e => e ▸ memB_iff.1 hm⟩
        · simp only [hm, Bool.false_eq_true, if_false, List.mem_append, List.mem_singleton]
          exact ⟨fun h => h.imp id Eq.symm, fun h => h.imp id Eq.symm⟩
    rw [h1]
    simp only [List.mem_cons, exists_eq_or_imp, or_assoc]
theorem mem_vars {q : Qy} {x : ByteArray} : x ∈ varsQ q ↔ ∃ a ∈ q.atoms, ∃ t ∈ a.terms, noVar t = false ∧ t.v = x := by
  rw [varsQ_flat, mem_addTs]
  simp only [List.not_mem_nil, false_or, List.mem_flatMap]
  exact ⟨fun ⟨t, ⟨a, h1, h2⟩, h3⟩ => ⟨a, h1, t, h2, h3⟩, fun ⟨a, h1, t, h2, h3⟩ => ⟨t, ⟨a, h1, h2⟩, h3⟩⟩

/-- what a query of the right shape is -/
structure Shaped (q : Qy) : Prop where
  name : nameB q.name = true
  head : ∀ h ∈ q.head, nameB h = true
  atoms : ∀ a ∈ q.atoms, nameB a.rel = true ∧ a.terms.length ≤ 5 ∧ ∀ t ∈ a.terms, (noVar t = true → validV t.c = true) ∧ (noVar t = false → nameB t.v = true ∧ t.c = zeroV)
  some : 1 ≤ q.atoms.length
  six : q.atoms.length ≤ 6
  nodup : q.head.Nodup
  safe : ∀ h ∈ q.head, ∃ a ∈ q.atoms, ∃ t ∈ a.terms, noVar t = false ∧ t.v = h
theorem shapeQ_iff {q : Qy} : shapeQ q = 0 ↔ Shaped q := by
  constructor
  · intro h
    obtain ⟨h1, h2, h3, h4, h5, h6⟩ := shapeQ_ok h
    simp only [badNameQ, Bool.not_eq_false', Bool.and_eq_true, List.all_eq_true] at h1
    simp only [List.any_eq_false] at h2 h4
    simp only [unsafeB, List.any_eq_false, Bool.not_eq_true, Bool.not_eq_false'] at h6
    refine ⟨h1.1.1, h1.1.2, fun a ha => ?_, h3.1, h3.2, nodup_of_dbl h5, fun x hx => mem_vars.1 (memB_iff.1 (h6 x hx))⟩
    have n1 := h1.2 a ha
    simp only [nameA, Bool.and_eq_true, List.all_eq_true] at n1
    have n2 := h2 a ha
    simp only [badA, Bool.not_eq_true, List.any_eq_false] at n2
    have n4 := h4 a ha
    simp only [wideA, decide_eq_true_eq] at n4
    refine ⟨n1.1, by omega, fun t ht => ?_⟩
    have m1 := n1.2 t ht
    have m2 := n2 t ht
    simp only [nameT, Bool.or_eq_true] at m1
    unfold badT at m2
    refine ⟨fun hn => ?_, fun hn => ?_⟩
    · simpa [hn] using m2
    · simp only [hn, Bool.false_eq_true, if_false, Bool.not_eq_true, Bool.not_eq_false', sameV_iff] at m2
      rw [hn] at m1
      exact ⟨by simpa using m1, m2⟩
  · intro h
    have c1 : badNameQ q = false := by
      simp only [badNameQ, Bool.not_eq_false', Bool.and_eq_true, List.all_eq_true]
      refine ⟨⟨h.name, h.head⟩, fun a ha => ?_⟩
      simp only [nameA, Bool.and_eq_true, List.all_eq_true]
      refine ⟨(h.atoms a ha).1, fun t ht => ?_⟩
      have := (h.atoms a ha).2.2 t ht
      unfold nameT
      cases hn : noVar t with
      | true => rfl
      | false => simpa using (this.2 hn).1
    have c2 : q.atoms.any badA = false := by
      simp only [List.any_eq_false, badA, Bool.not_eq_true]
      intro a ha t ht
      have := (h.atoms a ha).2.2 t ht
      unfold badT
      cases hn : noVar t with
      | true => simpa using this.1 hn
      | false => simpa [sameV_iff] using (this.2 hn).2
    have c4 : q.atoms.any wideA = false := by
      simp only [List.any_eq_false, wideA, decide_eq_true_eq]
      intro a ha
      have := (h.atoms a ha).2.1
      omega
    have c6 : unsafeB q = false := by
      simp only [unsafeB, List.any_eq_false, Bool.not_eq_true, Bool.not_eq_false']
      intro x hx
      exact memB_iff.2 (mem_vars.2 (h.safe x hx))
    have c3 : ¬ (q.atoms.length = 0 ∨ 6 < q.atoms.length) := by have := h.some; have := h.six; omega
    unfold shapeQ
    simp only [c1, c2, c4, c6, dbl_of_nodup h.nodup, if_neg c3, Bool.false_eq_true, if_false]
theorem Shaped.clean {q : Qy} (h : Shaped q) : cleanQ q := fun a ha t ht hn => (((h.atoms a ha).2.2 t ht).2 hn).2
theorem Shaped.heads {q : Qy} (h : Shaped q) : ∀ x ∈ q.head, x.toList.isEmpty = false := fun x hx => name_some (h.head x hx)

theorem shapesP_iff {f t : Qy} : shapesP f t = 0 ↔ Shaped f ∧ Shaped t ∧ f.head.length = t.head.length := by
  constructor
  · intro h
    obtain ⟨h1, h2, h3⟩ := shapesP_zero h
    exact ⟨shapeQ_iff.1 h1, shapeQ_iff.1 h2, h3⟩
  · rintro ⟨h1, h2, h3⟩
    simp [shapesP, shapeQ_iff.2 h1, shapeQ_iff.2 h2, h3]
theorem findR_err (f t : Qy) : (findR f t).2.2 = shapesP f t := by
  unfold findR
  split
  · rfl
  · rename_i h
    have h' : shapesP f t = 0 := Decidable.of_not_not h
    rw [h']
    split <;> rfl
theorem findR_yes {f t : Qy} : (findR f t).2.1 = true ↔ shapesP f t = 0 ∧ Lies f t := by
  unfold findR
  split
  · rename_i h
    simp [h]
  · rename_i h
    have h' : shapesP f t = 0 := Decidable.of_not_not h
    rw [← findP_iff (shapesP_iff.1 h').1.nodup]
    cases hf : findP f t <;> simp [h']

/-- a part of a query that has all of its head's variables -/
theorem Shaped.part {q p : Qy} (h : Shaped q) (hn : p.name = q.name) (hh : p.head = q.head) (hs : ∀ a ∈ p.atoms, a ∈ q.atoms) (h1 : 1 ≤ p.atoms.length) (h6 : p.atoms.length ≤ 6)
    (hv : ∀ x ∈ q.head, ∃ a ∈ p.atoms, ∃ t ∈ a.terms, noVar t = false ∧ t.v = x) : Shaped p :=
  ⟨hn ▸ h.name, hh ▸ h.head, fun a ha => h.atoms a (hs a ha), h1, h6, hh ▸ h.nodup, hh ▸ hv⟩
theorem withoutQ_sub (q : Qy) (i : Nat) : ∀ a ∈ (withoutQ q i).atoms, a ∈ q.atoms := fun a ha => by
  simp only [withoutQ, List.mem_append] at ha
  exact ha.elim List.mem_of_mem_take List.mem_of_mem_drop
theorem outB_iff {q : Qy} (hq : Shaped q) {i : Nat} : outB q i = true ↔ Shaped (withoutQ q i) ∧ Lies q (withoutQ q i) := by
  unfold outB
  rw [Bool.and_eq_true, decide_eq_true_iff, findR_yes, shapeQ_iff]
  constructor
  · rintro ⟨h1, _, h2⟩; exact ⟨h1, h2⟩
  · rintro ⟨h1, h2⟩; exact ⟨h1, shapesP_iff.2 ⟨hq, h1, rfl⟩, h2⟩
theorem firstOut_some {q : Qy} : ∀ {k i j : Nat}, firstOut q i k = some j → outB q j = true
  | 0, i, j, h => by cases h
  | k + 1, i, j, h => by
    simp only [firstOut] at h
    split at h
    · injection h with h; subst h; assumption
    · exact firstOut_some h
theorem firstOut_none {q : Qy} : ∀ {k i : Nat}, firstOut q i k = none → ∀ j, i ≤ j → j < i + k → outB q j = false
  | 0, i, _, j, h1, h2 => by omega
  | k + 1, i, h, j, h1, h2 => by
    simp only [firstOut] at h
    split at h
    · cases h
    · rename_i hn
      by_cases e : j = i
      · subst e; simpa using hn
      · exact firstOut_none h j (by omega) (by omega)

/-- what the core is -/
structure IsCore (q c : Qy) : Prop where
  shaped : Shaped c
  name : c.name = q.name
  head : c.head = q.head
  sub : ∀ a ∈ c.atoms, a ∈ q.atoms
  len : c.atoms.length ≤ q.atoms.length
  onto : Lies q c
theorem Lies.refl {q : Qy} (h : Shaped q) : Lies q q := Lies.sub h.clean rfl fun _ h => h
theorem coreP_spec : ∀ (k : Nat) (q : Qy), Shaped q → IsCore q (coreP k q)
  | 0, q, h => ⟨h, rfl, rfl, fun _ h => h, Nat.le_refl _, .refl h⟩
  | k + 1, q, h => by
    unfold coreP
    cases hf : firstOut q 0 q.atoms.length with
    | none => exact ⟨h, rfl, rfl, fun _ h => h, Nat.le_refl _, .refl h⟩
    | some i =>
      obtain ⟨h1, h2⟩ := (outB_iff h).1 (firstOut_some hf)
      have hc := coreP_spec k (withoutQ q i) h1
      have hi := withoutQ_len (firstOut_lt q _ _ _ hf |>.2 |> (by simpa using ·) : i < q.atoms.length)
      exact ⟨hc.shaped, hc.name, hc.head, fun a ha => withoutQ_sub q i a (hc.sub a ha), by have := hc.len; simp only at *; omega, Lies.trans h1.heads rfl h2 hc.onto⟩
theorem coreP_fix : ∀ (k : Nat) (q : Qy), q.atoms.length ≤ k → ∀ i, i < (coreP k q).atoms.length → outB (coreP k q) i = false
  | 0, q, h, i, hi => by
    have : q.atoms.length = 0 := by omega
    simp only [coreP] at hi
    omega
  | k + 1, q, h, i, hi => by
    unfold coreP at hi ⊢
    cases hf : firstOut q 0 q.atoms.length with
    | none =>
      simp only [hf] at hi
      exact firstOut_none hf i (Nat.zero_le _) (by omega)
    | some j =>
      simp only [hf] at hi
      have hj := withoutQ_len (firstOut_lt q _ _ _ hf |>.2 |> (by simpa using ·) : j < q.atoms.length)
      exact coreP_fix k _ (by omega) i hi

theorem nodup_sub_len {α : Type} [DecidableEq α] : ∀ (l m : List α), l.Nodup → (∀ x ∈ l, x ∈ m) → l.length ≤ m.length
  | [], m, _, _ => Nat.zero_le _
  | x :: l, m, hn, hs => by
    rw [List.nodup_cons] at hn
    have hx : x ∈ m := hs x (by simp)
    have := nodup_sub_len l (m.erase x) hn.2 fun y hy => by
      have hne : y ≠ x := fun e => hn.1 (e ▸ hy)
      exact (List.mem_erase_of_ne hne).2 (hs y (by simp [hy]))
    rw [List.length_erase_of_mem hx] at this
    have hp : 0 < m.length := List.length_pos_of_mem hx
    simp only [List.length_cons]
    omega
theorem mem_without {q : Qy} {i j : Nat} (hi : i < q.atoms.length) (hj : j < q.atoms.length) (h : i ≠ j) : q.atoms[i] ∈ (withoutQ q j).atoms := by
  simp only [withoutQ, List.mem_append]
  rcases Nat.lt_or_gt_of_ne h with h | h
  · left
    rw [List.mem_take_iff_getElem]
    exact ⟨i, by omega, rfl⟩
  · right
    rw [List.mem_drop_iff_getElem]
    exact ⟨i - (j + 1), by omega, by congr 1; omega⟩
theorem mem_or_without {q : Qy} {b : Atm} (h : b ∈ q.atoms) {i : Nat} (hi : i < q.atoms.length) : b = q.atoms[i] ∨ b ∈ (withoutQ q i).atoms := by
  obtain ⟨j, hj, e⟩ := List.getElem_of_mem h
  by_cases hij : j = i
  · subst hij; exact .inl e.symm
  · right; rw [← e]; exact mem_without hj hi hij
/-- what cannot lose an atom, upon which another lies and which lies upon it, is no longer -/
theorem core_le {c d : Qy} (hc : Shaped c) (hd : Shaped d) (hl : c.head.length = d.head.length) (h1 : Lies c d) (h2 : Lies d c) (hfix : ∀ i, i < c.atoms.length → outB c i = false) : c.atoms.length ≤ d.atoms.length := by
  obtain ⟨h, hh, ha⟩ := h1
  obtain ⟨g, gh, ga⟩ := h2
  have φh : headOn (fun x => app g (h x)) c.head c.head := fun i x z hx hz => by
    have hi : i < d.head.length := by rw [← hl]; exact (List.getElem?_eq_some_iff.1 hx).1
    have hy : d.head[i]? = some d.head[i] := List.getElem?_eq_getElem hi
    show app g (h x) = _
    rw [hh i x _ hx hy]
    have := hd.heads _ (List.getElem_mem hi)
    simp only [app, noVar, this, Bool.false_eq_true, if_false]
    exact gh i _ z hy hz
  have im : ∀ a ∈ c.atoms, ∃ b ∈ d.atoms, ∃ r ∈ c.atoms, onto g b r ∧ onto (fun x => app g (h x)) a r := fun a ham => by
    obtain ⟨b, hb, e1, e2⟩ := ha a ham
    obtain ⟨r, hr, e3, e4⟩ := ga b hb
    refine ⟨b, hb, r, hr, ⟨e3, e4⟩, e1.trans e3, ?_⟩
    rw [e4, e2, List.map_map]
    apply List.map_congr_left
    intro t _
    exact app_app h g t
  have key : ∀ i (hi : i < c.atoms.length), c.atoms[i] ∉ (withoutQ c i).atoms ∧ ∃ b ∈ d.atoms, onto g b c.atoms[i] := fun i hi => by
    apply Classical.byContradiction
    intro hno
    have hall : ∀ a ∈ c.atoms, ∃ r ∈ (withoutQ c i).atoms, onto (fun x => app g (h x)) a r := fun a ham => by
      obtain ⟨b, hb, r, hr, o1, o2⟩ := im a ham
      rcases mem_or_without hr hi with e | hw
      · subst e
        by_cases hm : c.atoms[i] ∈ (withoutQ c i).atoms
        · exact ⟨_, hm, o2⟩
        · exact absurd ⟨hm, b, hb, o1⟩ hno
      · exact ⟨r, hw, o2⟩
    have hL : Lies c (withoutQ c i) := ⟨_, φh, hall⟩
    have hlen := withoutQ_len hi
    have hS : Shaped (withoutQ c i) := by
      refine hc.part rfl rfl (withoutQ_sub c i) ?_ (by have := hc.six; omega) fun x hx => ?_
      · obtain ⟨r, hr, _⟩ := hall _ (List.getElem_mem hi)
        have := List.length_pos_of_mem hr
        omega
      · obtain ⟨a, ham, t, ht, hn, hv⟩ := hc.safe x hx
        obtain ⟨r, hr, _, e⟩ := hall a ham
        obtain ⟨k, hk, ek⟩ := List.getElem_of_mem hx
        have hx' : c.head[k]? = some x := by rw [List.getElem?_eq_getElem hk, ek]
        have e2 : app (fun x => app g (h x)) t = ⟨x, zeroV⟩ := by
          have e3 : app (fun x => app g (h x)) t = (fun x => app g (h x)) t.v := by
            unfold app; rw [hn]; rfl
          rw [e3, hv]
          exact φh k x x hx' hx'
        refine ⟨r, hr, ⟨x, zeroV⟩, ?_, hc.heads x hx, rfl⟩
        rw [e, List.mem_map]
        exact ⟨t, ht, e2⟩
    have := (outB_iff hc).2 ⟨hS, hL⟩
    rw [hfix i hi] at this
    cases this
  have hnd : c.atoms.Nodup := by
    unfold List.Nodup
    rw [List.pairwise_iff_getElem]
    intro i j hi hj hij e
    exact (key j hj).1 (e ▸ mem_without hi hj (by omega))
  haveI : DecidableEq Atm := fun a b => Classical.propDecidable _
  have := nodup_sub_len c.atoms (d.atoms.map fun b => ⟨b.rel, b.terms.map (app g)⟩) hnd fun a ham => by
    obtain ⟨i, hi, e⟩ := List.getElem_of_mem ham
    obtain ⟨_, b, hb, o1, o2⟩ := key i hi
    rw [List.mem_map]
    refine ⟨b, hb, ?_⟩
    rw [← e, o1, ← o2]
  simpa using this
/-- equal queries have cores of one length -/
theorem cores_len {q p : Qy} (hq : Shaped q) (hp : Shaped p) (hl : q.head.length = p.head.length) (h1 : Lies q p) (h2 : Lies p q) : (coreP q.atoms.length q).atoms.length = (coreP p.atoms.length p).atoms.length := by
  have c := coreP_spec q.atoms.length q hq
  have d := coreP_spec p.atoms.length p hp
  have c2 : Lies (coreP q.atoms.length q) q := Lies.sub c.shaped.clean c.head c.sub
  have d2 : Lies (coreP p.atoms.length p) p := Lies.sub d.shaped.clean d.head d.sub
  have cd : Lies (coreP q.atoms.length q) (coreP p.atoms.length p) := Lies.trans hp.heads (by rw [c.head, hl]) (Lies.trans hq.heads (by rw [c.head]) c2 h1) d.onto
  have dc : Lies (coreP p.atoms.length p) (coreP q.atoms.length q) := Lies.trans hq.heads (by rw [d.head, hl]) (Lies.trans hp.heads (by rw [d.head]) d2 h2) c.onto
  have e : (coreP q.atoms.length q).head.length = (coreP p.atoms.length p).head.length := by rw [c.head, d.head, hl]
  exact Nat.le_antisymm (core_le c.shaped d.shaped e cd dc (coreP_fix _ _ (Nat.le_refl _))) (core_le d.shaped c.shaped e.symm dc cd (coreP_fix _ _ (Nat.le_refl _)))
end Go.Proofs.Ythjpcnceppmnmaa

namespace Go.Proofs.Ythjpcnceppmnmaa
open Go.RowKit

/-- a query is handed back, its atoms in a new row: the cells but for those of the i-th atom -/
def RetW (w0 : World) (nm : ByteArray) (A : Option Addr) (n c m i : Nat) (cells : List Value) (en : Ending) (w' : World) : Prop :=
  ∃ g d, en = .returned (.agg #[.string nm, .slice A n c, .slice (some ⟨g, 0, none⟩) (m - 1) d]) ∧ w'.ownsRow w0.heap.size 43 2 (.slice (some ⟨g, 0, none⟩) (m - 1) d) (m - 1) (cells.take (i * 2) ++ cells.drop ((i + 1) * 2)) ∧ Ext w0 w'

set_option maxHeartbeats 2000000 in
set_option maxRecDepth 100000 in
theorem without_any (nm : ByteArray) (A B : Option Addr) (n c m d i : Nat) (cells : List Value) (w : World) (hsl : Sl w B m 2 cells) (h1 : OneCells cells) (hmm : m ≤ 1048576) (hmi : i < m) :
    Calls Try.prog 49 #[.agg #[.string nm, .slice A n c, .slice B m d], .int .i64 (i : Int)] w (RetW w nm A n c m i cells) := by
  have HCL := hide (fun w1 (hw : Ext w w1) => cloneA cells B m d w1 (hsl.ext hw) h1 (by omega))
  have HDEL := hide (show ∀ (g c base : Nat) (w1 : World), w1.ownsRow base 43 2 (.slice (some ⟨g, 0, none⟩) m c) m cells → Calls Try.prog 79 #[.slice (some ⟨g, 0, none⟩) m c, .int .i64 (i : Int), .int .i64 ((i : Int) + 1)] w1 fun e w' => e = .returned (.slice (some ⟨g, 0, none⟩) (m - 1) c) ∧ w'.ownsRow base 43 2 (.slice (some ⟨g, 0, none⟩) (m - 1) c) (m - 1) (cells.take (i * 2) ++ cells.drop ((i + 1) * 2)) ∧ w1.grownBy w' (some g) from
    fun g c base w1 ho => delete_atoms cells g c m i base w1 ho hmi (by omega) h1)
  have hi20 : i ≤ 1048576 := by omega
  clear hsl h1 hmm
  have hm0 : 0 < m := by omega
  have hwr : IntKind.i64.wrap ((i : Int) + 1) = (i : Int) + 1 := IntWalk.i64_in _ (by omega)
  have Hmi := hide hmi; clear hmi
  generalize hW2 : (w.alloc (.cells #[.string nm, .slice A n c, .slice B m d] 25)).alloc (.cells #[.string ⟨#[]⟩, .slice none 0 0, .slice none 0 0] 25) = W2
  have HE := hide (show Ext w W2 from hW2 ▸ (Ext.alloc w (.cells #[.string nm, .slice A n c, .slice B m d] 25)).alloc' (.cells #[.string ⟨#[]⟩, .slice none 0 0, .slice none 0 0] 25))
  have HB0 := hide (show Blk W2 w.heap.size 25 #[.string nm, .slice A n c, .slice B m d] from hW2 ▸ (Blk.new w 25 #[.string nm, .slice A n c, .slice B m d]).ext (Ext.alloc _ _))
  have HB1 := hide (show Blk W2 (w.heap.size + 1) 25 #[.string ⟨#[]⟩, .slice none 0 0, .slice none 0 0] from by
    have := Blk.new (w.alloc (.cells #[.string nm, .slice A n c, .slice B m d] 25)) 25 #[.string ⟨#[]⟩, .slice none 0 0, .slice none 0 0]
    rw [World.size_alloc, hW2] at this; exact this)
  have HW2 := hide hW2; clear hW2
  go_enter Try.func49, Try.ntmps49
  go_wp2_with fail
  rw [HW2.out]
  have S0 : Hid (W2.cell? ⟨w.heap.size, 0, none⟩ = some (.string nm) ∧ W2.cell? ⟨w.heap.size, 1, none⟩ = some (.slice A n c) ∧ W2.cell? ⟨w.heap.size, 2, none⟩ = some (.slice B m d)) := ⟨HB0.out.cell 0, HB0.out.cell 1, HB0.out.cell 2⟩
  have S1 : W2.cell? ⟨w.heap.size, 0, none⟩ = some (.string nm) := S0.out.1
  have S2 : W2.cell? ⟨w.heap.size, 1, none⟩ = some (.slice A n c) := S0.out.2.1
  have S3 : W2.cell? ⟨w.heap.size, 2, none⟩ = some (.slice B m d) := S0.out.2.2
  have q0 : W2.cell? ⟨w.heap.size + 1, 0, none⟩ = some (.string ⟨#[]⟩) := HB1.out.cell 0
  go_region_held3 (fun w' => w'.cell? ⟨w.heap.size, 0, none⟩ = some (.string nm) ∧ w'.cell? ⟨w.heap.size, 1, none⟩ = some (.slice A n c) ∧ w'.cell? ⟨w.heap.size, 2, none⟩ = some (.slice B m d))
    (first
      | (exact ⟨h7.out.cell S0.out.1, h7.out.cell S0.out.2.1, h7.out.cell S0.out.2.2⟩)
      | (exact ⟨h5.cell S0.out.1, h5.cell S0.out.2.1, h5.cell S0.out.2.2⟩)
      | go_keep)
    (first
      | (go_at_call 80; refine (HCL.out _ (Ext.drew' HE.out)).mono ?_; rintro e w5 ⟨A5, c5, rfl, o5, x5⟩; have h5 := (Ext.drew W2).trans x5; obtain ⟨g5, c6, hf5, _, _⟩ := World.ownsRow.form o5 hm0; rw [hf5] at o5; rw [hf5]; have p5 := own_base o5 (Ext.drew W2).size; have P5 := hide p5; clear hf5 o5 x5 p5)
      | (go_at_call 79; refine (HDEL.out g5 c6 _ w5 P5.out).mono ?_; rintro e w7 ⟨rfl, o7, g7⟩; have h7 := hide (show Ext W2 w7 from Below.grown h5 g7 h5.size (fun k hk => by cases hk; exact (P5.out.lt g5 rfl).1)); have O7 := hide o7; clear o7 g7; have B7 := HB1.out.ext h7.out; have z0 : w7.cell? ⟨w.heap.size + 1, 0, none⟩ = some (.string ⟨#[]⟩) := B7.cell 0; have z1 : w7.cell? ⟨w.heap.size + 1, 1, none⟩ = some (.slice none 0 0) := B7.cell 1; have z2 : w7.cell? ⟨w.heap.size + 1, 2, none⟩ = some (.slice none 0 0) := B7.cell 2; have f0 := B7.frozen 0; have f1 := B7.frozen 1; have f2 := B7.frozen 2; have BB7 := hide B7; clear B7))
  go_wp2_with fail
  refine bodyPost_ret (v := .agg #[.string nm, .slice A n c, .slice (some ⟨g5, 0, none⟩) (m - 1) c6]) (by simp [results, Try.results49, go_sem, z0, z1, z2]) rfl ?_
  have step : ∀ (g' : Nat) (t : TypeId) (cs : Array Value), t ≠ 25 → Blk w7 g' t cs → Blk (((w7.setCell ⟨w.heap.size + 1, 0, none⟩ (.string nm)).setCell ⟨w.heap.size + 1, 1, none⟩ (.slice A n c)).setCell ⟨w.heap.size + 1, 2, none⟩ (.slice (some ⟨g5, 0, none⟩) (m - 1) c6)) g' t cs := fun g' t cs ht hb => by
    have hne := blk_ne hb BB7.out ht
    exact ((hb.far (p := ⟨w.heap.size + 1, 0, none⟩) hne _).far (p := ⟨w.heap.size + 1, 1, none⟩) hne _).far (p := ⟨w.heap.size + 1, 2, none⟩) hne _
  have E7 : Ext w w7 := HE.out.trans h7.out
  have E10 : Ext w (((w7.setCell ⟨w.heap.size + 1, 0, none⟩ (.string nm)).setCell ⟨w.heap.size + 1, 1, none⟩ (.slice A n c)).setCell ⟨w.heap.size + 1, 2, none⟩ (.slice (some ⟨g5, 0, none⟩) (m - 1) c6)) :=
    ((E7.setCell (p := ⟨w.heap.size + 1, 0, none⟩) (by simp) _).setCell (p := ⟨w.heap.size + 1, 1, none⟩) (by simp) _).setCell (p := ⟨w.heap.size + 1, 2, none⟩) (by simp) _
  have BB8 := BB7.out.set_ 0 (.string nm)
  have BB9 := BB8.set_ 1 (.slice A n c)
  have o := own_set (own_set (own_set O7.out BB7.out (by decide) 0 (.string nm)) BB8 (by decide) 1 (.slice A n c)) BB9 (by decide) 2 (.slice (some ⟨g5, 0, none⟩) (m - 1) c6)
  exact ⟨g5, c6, rfl, own_base o HE.out.size, E10⟩
end Go.Proofs.Ythjpcnceppmnmaa
