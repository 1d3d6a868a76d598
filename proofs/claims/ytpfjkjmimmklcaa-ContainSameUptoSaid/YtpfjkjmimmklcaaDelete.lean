/-
  slices.Delete at atoms: one element is struck out, in place.
-/
import Derived.Test.YtpfjkjmimmklcaaClone
import Derived.Test.YtpfjkjmimmklcaaRefC
import Derived.Deep.DeepAppendRoom
namespace Go.Proofs.Ytpfjkjmimmklcaa
open Go.RowKit

theorem own_takeS {w : World} {base : Nat} {e : TypeId} {s n c : Nat} {A : Option Addr} {xs : List Value} (h : w.ownsRow base e s (.slice A n c) n xs) (k : Nat) (hk : k ≤ n) : w.ownsRow base e s (.slice A k c) k (xs.take (k * s)) := by
  have hks : k * s ≤ n * s := Nat.mul_le_mul_right _ hk
  rcases h.2 with ⟨h1, h2⟩ | ⟨g, cap, cur, h1, h2, h3, h4, h5, h6, h7⟩
  · injection h1 with e1 e2 e3
    subst e2
    obtain rfl : k = 0 := by omega
    refine ⟨by simp, .inl ⟨by rw [e1, e3], rfl⟩⟩
  · injection h1 with e1 e2 e3
    subst e1; subst e3
    refine ⟨by rw [List.length_take, h.1]; omega, .inr ⟨g, c, cur, rfl, h2, h3, by omega, h5, h6, ?_⟩⟩
    rw [← h7, List.take_take]
    congr 1
    omega

theorem zeroA (w : World) : (zeroValue 40).run Try.prog w = .ok (.agg #[.string .empty, .slice none 0 0]) w := by kernel_rfl
theorem run_clear_atom (w : World) (ty : TypeId) (b o c : Nat) (v0 v1 : Value) (h0 : w.cell? ⟨b, o, none⟩ = some v0) (h1 : w.cell? ⟨b, o + 1, none⟩ = some v1) (f0 : w.frozen? ⟨b, o, none⟩ = false) (f1 : w.frozen? ⟨b, o + 1, none⟩ = false) :
    (Builtin.clear_ #[23] ty #[.slice (some ⟨b, o, none⟩) 1 c]).run Try.prog w = .ok (.tuple #[]) ((w.setCell ⟨b, o, none⟩ (.string .empty)).setCell ⟨b, o + 1, none⟩ (.slice none 0 0)) := by
  have hz := zeroA
  simp [Builtin.clear_, go_sem, hz, h0, h1, f0, f1, Builtin.zeroCells]
/-- behind the row's length its block may be written over -/
theorem own_beyond {w : World} {base g : Nat} {e : TypeId} {s n c : Nat} {xs : List Value} (h : w.ownsRow base e s (.slice (some ⟨g, 0, none⟩) n c) n xs) (j : Nat) (hj : n * s ≤ j) (u : Value) : (w.setCell ⟨g, j, none⟩ u).ownsRow base e s (.slice (some ⟨g, 0, none⟩) n c) n xs := by
  refine ⟨h.1, ?_⟩
  rcases h.2 with ⟨h1, _⟩ | ⟨g', cap, cur, h1, h2, h3, h4, h5, h6, h7⟩
  · cases h1
  · cases h1
    have hb : Blk w g e cur := h3
    refine .inr ⟨g, c, cur.setIfInBounds j u, rfl, h2, hb.set_ j u, h4, h5, by simpa using h6, ?_⟩
    rw [← h7, Array.toList_setIfInBounds, List.take_set_of_le hj]

theorem ExtM.self {g : Nat} {a w : World} (h : ExtM g a w) (i : Nat) (u : Value) : ExtM g a (w.setCell ⟨g, i, none⟩ u) :=
  h.trans ⟨rfl, rfl, rfl, by simp, fun k _ hk => Below.heap_setCell _ _ _ _ (fun e => hk (by rw [e]))⟩
theorem own_room {w : World} {base g : Nat} {e : TypeId} {s n c : Nat} {xs : List Value} (h : w.ownsRow base e s (.slice (some ⟨g, 0, none⟩) n c) n xs) (j : Nat) (hj : j < c * s) : ∃ v, w.cell? ⟨g, j, none⟩ = some v ∧ w.frozen? ⟨g, j, none⟩ = false := by
  rcases h.2 with ⟨h1, _⟩ | ⟨g', cap, cur, h1, h2, h3, h4, h5, h6, h7⟩
  · cases h1
  · cases h1
    have hb : Blk w g e cur := h3
    have hl : j < cur.size := by simpa [h6] using hj
    exact ⟨cur[j], by rw [hb.cell j]; exact Array.getElem?_eq_getElem hl, hb.frozen j⟩

set_option maxHeartbeats 2000000 in
set_option maxRecDepth 100000 in
theorem delete_atoms (cells : List Value) (g c n i base : Nat) (w : World) (ho : w.ownsRow base 40 2 (.slice (some ⟨g, 0, none⟩) n c) n cells) (hi : i < n) (hn : n ≤ 16777216) (h1 : OneCells cells) :
    Calls Try.prog 97 #[.slice (some ⟨g, 0, none⟩) n c, .int .i64 (i : Int), .int .i64 ((i + 1 : Nat) : Int)] w fun e w' => e = .returned (.slice (some ⟨g, 0, none⟩) (n - 1) c) ∧ w'.ownsRow base 40 2 (.slice (some ⟨g, 0, none⟩) (n - 1) c) (n - 1) (cells.take (i * 2) ++ cells.drop ((i + 1) * 2)) ∧ w.grownBy w' (some g) := by
  obtain ⟨i0, hi0, hz0, hz1, hz2'⟩ := info_parts infoA
  have hc : n ≤ c := by
    rcases ho.2 with ⟨h1, _⟩ | ⟨g', cap, cur, hv, _, _, h4, _⟩
    · cases h1
    · injection hv with _ _ h; omega
  have hl : cells.length = n * 2 := ho.1
  obtain ⟨ad, had, hnews⟩ : ∃ ad : Addr, (if c = i + 1 then (some ⟨g, 0, none⟩ : Option Addr) else some ⟨g, (i + 1) * 2, none⟩) = some ad ∧ ∀ j u, (cells.drop ((i + 1) * 2))[j]? = some u → w.cell? (ad.add j) = some u := by
    by_cases h : c = i + 1
    · refine ⟨⟨g, 0, none⟩, by rw [if_pos h], fun j u hu => ?_⟩
      rw [List.drop_of_length_le (by omega)] at hu
      simp at hu
    · refine ⟨⟨g, (i + 1) * 2, none⟩, by rw [if_neg h], fun j u hu => ?_⟩
      rw [List.getElem?_drop] at hu
      obtain ⟨b, off, hA, hat⟩ := (Sl.own ho).2 (by omega)
      injection hA with hA
      injection hA with hb ho'
      subst hb; subst ho'
      rw [add_flat]
      have := hat _ _ hu
      simpa using this
  have Hn := hide hnews; clear hnews
  have Ho := hide ho; clear ho
  have hne : ((i : Int) == ((i + 1 : Nat) : Int)) = false := by simp; omega
  go_enter Try.func97, Try.ntmps97
  go_wp2_with fail
  have hic : i ≤ c := by omega
  have hy1 : (0 : Int) ≤ (i : Int) + 1 := by omega
  have hy2 : (i : Int) + 1 ≤ (n : Int) := by omega
  have hy3 : ((i : Int) + 1).toNat = i + 1 := by omega
  refine wp_region_ext 6 (by kernel_rfl) (by kernel_rfl) (by kernel_rfl) ?_
  iterate 6
    refine wpE_k (by kernel_rfl) (by kernel_rfl) ?_
    apply Exists.intro
    refine ⟨fun w1 hw1 => ?_, fun K hK => ?_⟩
    · go_simp; first | done | rfl
    go_simp; refine hK _ _ ?_; clear hK K
  refine wpE_nil ⟨rfl, by kernel_rfl, fun w1 hw1 => ?_⟩
  simp only [EndQ, List.drop]
  clear hic hy1 hy2 hy3
  have HW := hide hw1; clear hw1
  have e1 : i + (n - (i + 1)) = n - 1 := by omega
  have e2 : n - (n - 1) = 1 := by omega
  have E1 := hide e1; have E2 := hide e2; clear e1 e2
  have Hout := hide (show ∀ w2 : World, w2.ownsRow base 40 2 (.slice (some ⟨g, 0, none⟩) (i + (n - (i + 1))) c) (i + (n - (i + 1))) (cells.take (i * 2) ++ cells.drop ((i + 1) * 2)) → ∃ v0 v1, w2.cell? ⟨g, (n - 1) * 2, none⟩ = some v0 ∧ w2.cell? ⟨g, (n - 1) * 2 + 1, none⟩ = some v1 ∧ w2.frozen? ⟨g, (n - 1) * 2, none⟩ = false ∧ w2.frozen? ⟨g, (n - 1) * 2 + 1, none⟩ = false from fun w2 h => by
    obtain ⟨v0, a1, a2⟩ := own_room h ((n - 1) * 2) (by omega)
    obtain ⟨v1, a3, a4⟩ := own_room h ((n - 1) * 2 + 1) (by omega)
    exact ⟨v0, v1, a1, a3, a2, a4⟩)
  go_wp2_with (at_builtin; refine wpList_append_own_spare w1 rfl (.tmp 22) (.tmp 25) _ rfl base 40 i0 2 Try.underlying23 hi0 hz1 g i c (cells.take (i * 2)) rfl (own_takeS (own_ext Ho.out HW.out) i (by omega)) ad (n - (i + 1)) (c - (i + 1)) (cells.drop ((i + 1) * 2)) rfl (by rw [List.length_drop]; omega) (fun j u hu => HW.out.cell (Hn.out j u hu)) (fun u hu => h1 u (List.mem_of_mem_drop hu)) (by omega) ?_; intro w2 hown2 hgrow2; obtain ⟨v0, v1, a1, a2, a3, a4⟩ := Hout.out w2 hown2; have HO2 := hide hown2; have HG2 := hide hgrow2; clear hown2 hgrow2; rw [E1.out]; have e2 := E2.out; have hcl := fun ty c' => run_clear_atom w2 ty g ((n - 1) * 2) c' v0 v1 a1 a2 a3 a4)
  go_ret
  have o := HO2.out
  rw [E1.out] at o
  exact ⟨rfl, own_beyond (own_beyond o _ (Nat.le_refl _) _) _ (Nat.le_succ _) _, (((ExtM.of HW.out).trans HG2.out).self _ _).self _ _⟩
end Go.Proofs.Ytpfjkjmimmklcaa
