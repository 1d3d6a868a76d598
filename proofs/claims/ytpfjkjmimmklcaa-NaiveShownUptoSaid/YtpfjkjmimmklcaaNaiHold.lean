/-
  Holds: a row is looked for among the answers by halving.
-/
import Derived.Test.YtpfjkjmimmklcaaNaiH
import Derived.Test.YtpfjkjmimmklcaaHomG
import Derived.IntWalk
namespace Go.Proofs.Ytpfjkjmimmklcaa
open Go.RowKit

theorem hasR_iff {xs : List (List V)} {r : List V} : hasR xs r = true ↔ r ∈ xs := by
  unfold hasR
  rw [List.any_eq_true]
  constructor
  · rintro ⟨s, h1, h2⟩
    rw [← sameR_iff.1 h2]; exact h1
  · intro h
    exact ⟨r, h, sameR_iff.2 rfl⟩
/-- where the row stands, if it stands there: between i and j -/
def Betw (xs : List (List V)) (r : List V) (i j : Nat) : Prop := ∀ k, xs[k]? = some r → i ≤ k ∧ k ≤ j
theorem rises_lt {xs : List (List V)} (h : Rises xs) {i k : Nat} {x y : List V} (hx : xs[i]? = some x) (hy : xs[k]? = some y) (hik : i < k) : cmpR x y < 0 := by
  obtain ⟨h1, rfl⟩ := List.getElem?_eq_some_iff.1 hx
  obtain ⟨h2, rfl⟩ := List.getElem?_eq_some_iff.1 hy
  exact List.pairwise_iff_getElem.1 h i k h1 h2 hik
theorem Betw.up {xs : List (List V)} {r x : List V} {i j h : Nat} (hr : Rises xs) (hb : Betw xs r i j) (hx : xs[h]? = some x) (hc : cmpR x r < 0) : Betw xs r (h + 1) j := fun k hk => by
  refine ⟨?_, (hb k hk).2⟩
  rcases Nat.lt_trichotomy k h with h1 | h1 | h1
  · exact absurd (rises_lt hr hk hx h1) (cmpR_asymm hc)
  · subst h1
    rw [hx] at hk
    injection hk with hk
    subst hk
    rw [cmpR_self] at hc
    omega
  · omega
theorem Betw.down {xs : List (List V)} {r x : List V} {i j h : Nat} (hr : Rises xs) (hb : Betw xs r i j) (hx : xs[h]? = some x) (hc : ¬ cmpR x r < 0) : Betw xs r i h := fun k hk => by
  refine ⟨(hb k hk).1, ?_⟩
  rcases Nat.lt_or_ge h k with h1 | h1
  · exact absurd (rises_lt hr hx hk h1) hc
  · exact h1
theorem Betw.out {xs : List (List V)} {r : List V} {i : Nat} (hb : Betw xs r i i) : hasR xs r = (match xs[i]? with | some x => decide (cmpR x r = 0) | none => false) := by
  rw [Bool.eq_iff_iff, hasR_iff]
  constructor
  · intro h
    obtain ⟨k, hk, rfl⟩ := List.getElem_of_mem h
    have h1 := hb k (List.getElem?_eq_getElem hk)
    obtain rfl : k = i := by omega
    rw [List.getElem?_eq_getElem hk]
    simp [cmpR_self]
  · intro h
    cases hx : xs[i]? with
    | none => rw [hx] at h; cases h
    | some x =>
      rw [hx] at h
      have := (isCmp_row.eq x r).1 (of_decide_eq_true h)
      subst this
      exact List.mem_of_getElem? hx

set_option maxHeartbeats 2000000 in
set_option maxRecDepth 100000 in
theorem bsearch_any (xs : List (List V)) (r : List V) (A B : Option Addr) (n m c d : Nat) (w : World) (ha : LAt RRow 1 w A n xs) (hb : RowAt w B m r) (hr : Rises xs) (hn : n ≤ 1073741824) (hl : ∀ x ∈ xs, x.length ≤ 1048576) (hm : m ≤ 1048576) :
    Calls Try.prog 68 #[.slice A n c, .slice B m d, .func (.func 57) #[] #[]] w fun e w' => ∃ i : Int, e = .returned (.tuple #[.int .i64 i, .bool (hasR xs r)]) ∧ Ext w w' := by
  have eg := enters_of (P := Try.prog) Try.func57 (by kernel_rfl) rfl
  obtain rfl : n = xs.length := ha.len
  have Ha := hide ha; have Hr := hide hr
  have HC := hide (fun (x : List V) (A9 : Option Addr) (n9 c9 : Nat) (w9 : World) (h9 : Ext w w9) (hx : RowAt w9 A9 n9 x) (hxx : x ∈ xs) => row_cmp x r A9 B n9 m c9 d w9 hx (hb.ext h9) (by have := hl x hxx; have := hx.len; omega) (by omega))
  clear ha hb hr hl
  go_enter Try.func68, Try.ntmps68
  go_wp2_with fail
  go_loopw [9, 10, 11] (fun s9 s10 _ w' => ∃ i j : Nat, i ≤ j ∧ j ≤ xs.length ∧ s9 = .int .i64 i ∧ s10 = .int .i64 j ∧ Hid (Betw xs r i j) ∧ Hid (Ext w w')) (fun s9 s10 _ _ => (intOf s10).toNat - (intOf s9).toNat)
  case atStart => exact ⟨0, xs.length, by omega, by omega, rfl, rfl, fun k hk => ⟨by omega, by have := (List.getElem?_eq_some_iff.1 hk).1; omega⟩, Ext.refl _⟩
  case round =>
    obtain ⟨i, j, hij, hjn, rfl, rfl, hB, hX⟩ := hrel
    by_cases h : i < j
    · have hh : (i + j) / 2 < j := by omega
      have hh2 : i ≤ (i + j) / 2 := by omega
      obtain ⟨b, off, x, A9, n9, c9, rfl, hx, hb1, d0, hR⟩ := (Ha.out.ext RRow.stab hX.out).row_ (show (i + j) / 2 < xs.length by omega)
      have e1 : IntKind.i64.wrap ((i : Int) + (j : Int)) = ((i + j : Nat) : Int) := by rw [IntWalk.i64_in _ (by omega)]; omega
      have HCX := hide (HC.out x A9 n9 c9 wr hX.out hR (List.mem_of_getElem? hx))
      have HX := hide hx
      clear hx hb1 hR
      have HU := hide (fun hc => Betw.up Hr.out hB.out HX.out hc)
      have HD := hide (fun hc => Betw.down Hr.out hB.out HX.out hc)
      generalize cmpR x r = cm at *
      by_cases hc : cm < 0
      · go_wp2_with ((with_reducible refine HCX.out.mono ?_); rintro e w5 ⟨rfl, x5⟩; have X5 := hide (hX.out.trans x5); clear x5 d0)
        go_roundw
        case rel => exact ⟨(i + j) / 2 + 1, j, by omega, by omega, by go_num, rfl, HU.out hc, X5.out⟩
        case measure => simp only [intOf]; omega
      · have hc2 : ¬ cm < 0 := hc
        go_wp2_with ((with_reducible refine HCX.out.mono ?_); rintro e w5 ⟨rfl, x5⟩; have X5 := hide (hX.out.trans x5); clear x5 d0)
        go_roundw
        case rel => exact ⟨i, (i + j) / 2, by omega, by omega, rfl, by go_num, HD.out hc, X5.out⟩
        case measure => simp only [intOf]; omega
    · obtain rfl : i = j := by omega
      have HO := hide hB.out.out
      by_cases hin : i < xs.length
      · obtain ⟨b, off, x, A9, n9, c9, rfl, hx, hb1, d0, hR⟩ := (Ha.out.ext RRow.stab hX.out).row_ hin
        have HCX := hide (HC.out x A9 n9 c9 wr hX.out hR (List.mem_of_getElem? hx))
        rw [hx] at HO
        simp only at HO
        clear hx hb1 hR
        generalize cmpR x r = cm at *
        by_cases hc : cm = 0
        · subst hc
          go_wp2_with ((with_reducible refine HCX.out.mono ?_); rintro e w5 ⟨rfl, x5⟩; have X5 := hide (hX.out.trans x5); clear x5 d0)
          go_ret2
          exact ⟨i, by rw [HO.out]; rfl, X5.out⟩
        · have hc2 : (cm == 0) = false := by simpa using hc
          go_wp2_with ((with_reducible refine HCX.out.mono ?_); rintro e w5 ⟨rfl, x5⟩; have X5 := hide (hX.out.trans x5); clear x5 d0)
          go_ret2
          exact ⟨i, by rw [HO.out]; simp [hc], X5.out⟩
      · rw [List.getElem?_eq_none_iff.2 (by omega)] at HO
        simp only at HO
        go_wp2_with fail
        go_ret2
        exact ⟨i, by rw [HO.out]; rfl, hX.out⟩

/-- naive.Holds -/
def holdsP (q : Qy) (data : List Tbl) (r : List V) : Bool := hasR (collectP q data).1 r
set_option maxRecDepth 100000 in
theorem holds_any (q : Qy) (L : QLoc) (data : List Tbl) (B : Option Addr) (m c : Nat) (r : List V) (C : Option Addr) (k d : Nat) (w : World) (hq : QAt w L q) (hM : smallM 1048576 q) (hb : LAt RB 2 w B m data) (hm : m ≤ 1048576) (hsum : (data.flatMap Tbl.rows).length ≤ 1099511627776)
    (hrow : ∀ t ∈ data, ∀ r ∈ t.rows, r.length ≤ 1048576) (hr : RowAt w C k r) (hk : k ≤ 1048576) (hlen : (collectP q data).1.length ≤ 1073741824) :
    Calls Try.prog 39 #[qval q.name L, .slice B m c, .slice C k d] w fun e w' => e = .returned (.tuple #[.bool (holdsP q data r), .int .i64 (collectP q data).2.2]) ∧ Ext w w' := by
  have HRI := hide (show Rises (collectP q data).1 from by
    unfold collectP
    split
    · split
      · exact rises_arr _
      · exact .nil
    · exact .nil)
  have HLE := hide (show ∀ x ∈ (collectP q data).1, x.length ≤ 1048576 from fun x hx => by
    unfold collectP at hx
    split at hx
    · split at hx
      · unfold ansP at hx
        obtain ⟨v, -, rfl⟩ := List.mem_map.1 (mem_arr.1 hx)
        have := hM.headL
        simpa [headV] using this
      · cases hx
    · cases hx)
  have HHL := hide hlen
  obtain ⟨nm, hd, as_⟩ := q
  obtain ⟨A, n, cA, AB, kk, dd⟩ := L
  simp only [qval]
  have HC := hide (fun w1 (h1 : Ext w w1) => collect_any ⟨nm, hd, as_⟩ ⟨A, n, cA, AB, kk, dd⟩ data B m c w1 (hq.ext h1) hM (hb.ext RB.stab h1) hm hsum hrow)
  simp only [qval] at HC
  have HX := hide (Ext.alloc w (.cells #[.string nm, .slice A n cA, .slice AB kk dd] 25))
  have HC1 := hide (HC.out _ HX.out)
  have HR := hide hr
  clear hq hM hb hsum hrow hlen hr
  unfold holdsP
  generalize collectP ⟨nm, hd, as_⟩ data = co at *
  have HBS := hide (fun A5 c5 w5 (h5 : Ext w w5) (hL : LAt RRow 1 w5 A5 co.1.length co.1) => bsearch_any co.1 r A5 C co.1.length k c5 d w5 hL (HR.out.ext h5) HRI.out HHL.out HLE.out hk)
  go_enter Try.func39, Try.ntmps39
  go_wp2_with (first
    | ((with_reducible refine HC1.out.mono ?_); rintro e w5 ⟨A5, c5, cells5, rfl, o5, e5, x5⟩; have X5 := hide (HX.out.trans x5); have L5 := hide (mine_lat rfl o5 e5); clear o5 e5 x5)
    | ((with_reducible refine (HBS.out A5 c5 _ X5.out L5.out).mono ?_); rintro e w6 ⟨i6, rfl, x6⟩; have X6 := hide (X5.out.trans x6); clear x6))
  go_ret2
  exact ⟨rfl, X6.out⟩
end Go.Proofs.Ytpfjkjmimmklcaa
