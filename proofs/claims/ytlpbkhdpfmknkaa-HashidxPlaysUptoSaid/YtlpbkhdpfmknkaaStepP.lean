/-
  hashidx and the document's index answer alike.
-/
import Derived.Test.YtlpbkhdpfmknkaaHidJ
import Derived.Test.YtlpbkhdpfmknkaaHidO
namespace Go.Proofs.Ytlpbkhdpfmknkaa
open Go.RowKit

theorem agree_put {E E' : List (List UInt8 × Int)} {L L' : List ByteArray} {N N' : List Int} (h : Agree E L N) {most : Nat} {key : ByteArray} {v old old2 err err2 : Int} {had had2 : Bool} (hx : PutRes E most (keyOf key) v old had err E') (hd : RPutRes L N most key v old2 had2 err2 L' N') :
    old = old2 ∧ had = had2 ∧ err = err2 ∧ Agree E' L' N' := by
  rcases hx with ⟨h1, rfl, rfl, rfl, rfl⟩ | ⟨h1, rfl, rfl, R, hp, rfl⟩ | ⟨h1, h2, h3, rfl, rfl, rfl, rfl⟩ | ⟨h1, h2, h3, rfl, rfl, rfl, rfl⟩
  · rw [keyOf_len] at h1
    rcases hd with ⟨g1, rfl, rfl, rfl, rfl, rfl⟩ | ⟨g1, _⟩ | ⟨g1, _⟩ | ⟨g1, _⟩
    · exact ⟨rfl, rfl, rfl, h⟩
    · omega
    · omega
    · omega
  · rw [keyOf_len] at h1
    have hm : (keyOf key, old) ∈ E := hp.mem_iff.2 (List.mem_cons_self ..)
    obtain ⟨i, hi, hn⟩ := h.mem.1 hm
    have hin := List.mem_of_getElem? hi
    rcases hd with ⟨g1, _⟩ | ⟨g1, rfl, rfl, rfl, p, hp1, hp2, rfl⟩ | ⟨g1, g2, _⟩ | ⟨g1, g2, _⟩
    · omega
    · have ho := h.one hm hp1 hp2
      subst ho
      obtain ⟨R', r1, r2, _⟩ := prs_set v h.len hp1 hp2
      refine ⟨rfl, rfl, rfl, ⟨?_, by rw [List.length_set]; exact h.len, h.rises⟩⟩
      have h5 : List.Perm ((keyOf key, old) :: R) ((keyOf key, old) :: R') := hp.symm.trans (h.perm.trans r1)
      exact (List.Perm.cons _ h5.cons_inv).trans r2.symm
    · exact absurd hin g2
    · exact absurd hin g2
  · rw [keyOf_len] at h1
    have hno : key ∉ L := fun hin => by
      obtain ⟨i, hi, e⟩ := List.getElem_of_mem hin
      have hg : L[i]? = some key := by rw [List.getElem?_eq_getElem hi, e]
      have hl : i < N.length := by rw [h.len]; exact hi
      exact h2 N[i] (h.mem.2 ⟨i, hg, List.getElem?_eq_getElem hl⟩)
    rw [h.eLen] at h3
    rcases hd with ⟨g1, _⟩ | ⟨g1, _, _, _, p, hp1, _⟩ | ⟨g1, g2, g3, rfl, rfl, rfl, rfl, rfl⟩ | ⟨g1, g2, g3, _⟩
    · omega
    · exact absurd (List.mem_of_getElem? hp1) hno
    · exact ⟨rfl, rfl, rfl, h⟩
    · omega
  · rw [keyOf_len] at h1
    have hno : key ∉ L := fun hin => by
      obtain ⟨i, hi, e⟩ := List.getElem_of_mem hin
      have hg : L[i]? = some key := by rw [List.getElem?_eq_getElem hi, e]
      have hl : i < N.length := by rw [h.len]; exact hi
      exact h2 N[i] (h.mem.2 ⟨i, hg, List.getElem?_eq_getElem hl⟩)
    rw [h.eLen] at h3
    rcases hd with ⟨g1, _⟩ | ⟨g1, _, _, _, p, hp1, _⟩ | ⟨g1, g2, g3, _⟩ | ⟨g1, g2, g3, rfl, rfl, rfl, p, hc, rfl, rfl⟩
    · omega
    · exact absurd (List.mem_of_getElem? hp1) hno
    · omega
    · exact ⟨rfl, rfl, rfl, ⟨(List.Perm.cons _ h.perm).trans (prs_ins key v h.len).symm, by rw [insAt_len _ hc.le, insAt_len _ (by rw [h.len]; exact hc.le), h.len], hc.rises h.rises hno⟩⟩
theorem agree_get {E : List (List UInt8 × Int)} {L : List ByteArray} {N : List Int} (h : Agree E L N) {key : ByteArray} {r : Option Int} {v : Int} {b : Bool} (hx : LookAt E (keyOf key) r) (hd : RLook L N key v b) : r.getD 0 = v ∧ r.isSome = b := by
  rcases hd with ⟨rfl, p, hp, hn⟩ | ⟨rfl, rfl, hno⟩
  · cases r with
    | none => exact absurd (h.mem.2 ⟨p, hp, hn⟩) (hx.2 rfl v)
    | some u => exact ⟨h.one (hx.1 u rfl) hp hn, rfl⟩
  · cases r with
    | none => exact ⟨rfl, rfl⟩
    | some u => exact absurd (hx.1 u rfl) (h.none hno u)
theorem agree_del {E E' : List (List UInt8 × Int)} {L L' : List ByteArray} {N N' : List Int} (h : Agree E L N) {key : ByteArray} {r : Option Int} {v : Int} {b : Bool} (hx : LookAt E (keyOf key) r) (hs : ∀ u, r = some u → List.Perm E ((keyOf key, u) :: E')) (hn : r = none → E' = E)
    (hd : (b = true ∧ ∃ p : Nat, L[p]? = some key ∧ N[p]? = some v ∧ L' = L.eraseIdx p ∧ N' = N.eraseIdx p) ∨ (b = false ∧ v = 0 ∧ key ∉ L ∧ L' = L ∧ N' = N)) : r.getD 0 = v ∧ r.isSome = b ∧ Agree E' L' N' := by
  rcases hd with ⟨rfl, p, hp, hq, rfl, rfl⟩ | ⟨rfl, rfl, hno, rfl, rfl⟩
  · obtain ⟨h1, h2⟩ := agree_get h hx (.inl ⟨rfl, p, hp, hq⟩)
    cases r with
    | none => cases h2
    | some u =>
      have h1 : u = v := h1
      subst h1
      obtain ⟨R', r1, _, r3⟩ := prs_set 0 h.len hp hq
      have hpl : p < L.length := (List.getElem?_eq_some_iff.1 hp).1
      refine ⟨rfl, rfl, ⟨?_, by rw [erase_len hpl, erase_len (by rw [h.len]; exact hpl), h.len], h.rises.erase p⟩⟩
      have h5 : List.Perm ((keyOf key, u) :: E') ((keyOf key, u) :: R') := (hs u rfl).symm.trans (h.perm.trans r1)
      exact h5.cons_inv.trans r3.symm
  · obtain ⟨h1, h2⟩ := agree_get h hx (.inr ⟨rfl, rfl, hno⟩)
    cases r with
    | none => exact ⟨rfl, rfl, by rw [hn rfl]; exact h⟩
    | some u => cases h2
theorem agree_keys {E : List (List UInt8 × Int)} {L : List ByteArray} {N : List Int} (h : Agree E L N) {ps : List KP} (hp : List.Perm (ps.map KP.r) (E.map (·.1))) (hs : ps.Pairwise kpLe) : ps.map KP.r = L.map keyOf := by
  have h1 : List.Perm (ps.map KP.r) (L.map keyOf) := by
    have := hp.trans (h.perm.map (·.1))
    rwa [prs_keys h.len] at this
  have h2 : (ps.map KP.r).Pairwise (fun a b => Lib.compareBytes a b ≤ 0) := List.pairwise_map.2 hs
  have h3 : (L.map keyOf).Pairwise (fun a b => Lib.compareBytes a b ≤ 0) := List.pairwise_map.2 (h.rises.imp fun hab => by
    have : cmpB _ _ < 0 := hab
    exact Int.le_of_lt this)
  exact List.Perm.eq_of_pairwise (fun a b _ _ h3 h4 => (isCmp_keys.eq a b).1 (by
    have := isCmp_keys.anti a b
    omega)) h2 h3 h1
theorem keyOf_text (s : ByteArray) : (⟨(keyOf s).toArray⟩ : ByteArray) = s := by
  obtain ⟨a⟩ := s
  simp [keyOf]

/-- the index and the document's, in the blocks B and R -/
def Two (w : World) (B R : Nat → Prop) (x d most p : Nat) : Prop :=
  ∃ (E : List (List UInt8 × Int)) (A : Option Addr) (a : Nat) (M : Option Addr) (m : Nat) (L : List ByteArray) (N : List Int), HIx w B x most p E ∧ RIx w R d most p A a M m L N ∧ Agree E L N ∧ ∀ g, B g → ¬ R g
theorem RIx.far {w w' : World} {R C : Nat → Prop} {d most probes a m : Nat} {A M : Option Addr} {L : List ByteArray} {N : List Int} (h : RIx w R d most probes A a M m L N) (hc : Chg C w w') (hd : ∀ g, R g → ¬ C g) : RIx w' R d most probes A a M m L N :=
  ⟨h.toRRaw.far hc hd, h.len, h.rises, h.small, h.most⟩
theorem Two.far {w w' : World} {B R C : Nat → Prop} {x d most p : Nat} (h : Two w B R x d most p) (hc : Chg C w w') (hd : ∀ g, B g ∨ R g → ¬ C g) : Two w' B R x d most p := by
  obtain ⟨E, A, a, M, m, L, N, h1, h2, h3, h4⟩ := h
  exact ⟨E, A, a, M, m, L, N, h1.far hc fun g hg => hd g (.inl hg), h2.far hc fun g hg => hd g (.inr hg), h3, h4⟩
theorem Two.ext {w w' : World} {B R : Nat → Prop} {x d most p : Nat} (h : Two w B R x d most p) (hw : Ext w w') : Two w' B R x d most p :=
  h.far (C := fun _ => False) (Chg.of hw) fun _ _ x => x
theorem Two.old {w : World} {B R : Nat → Prop} {x d most p : Nat} (h : Two w B R x d most p) : ∀ g, B g ∨ R g → g < w.heap.size := by
  obtain ⟨E, A, a, M, m, L, N, h1, h2, h3, h4⟩ := h
  exact fun g hg => hg.elim (h1.old g) (h2.old g)

set_option maxRecDepth 100000 in
theorem keys_fn {w : World} {B R : Nat → Prop} {x d most p : Nat} (h : Two w B R x d most p) :
    Calls Try.prog 17 #[.pointer (some ⟨x, 0, none⟩), .pointer (some ⟨d, 0, none⟩)] w fun e w' => e = .returned (.bool true) ∧ Ext w w' := by
  obtain ⟨E, A, a, M, m, L, N, h1, h2, h3, h4⟩ := h
  have HX := hide h1; have HR := hide h2; have HA := hide h3
  have HK := hide (keys_any h1)
  have hLl : L.length ≤ 1048576 := by have := h2.most; omega
  clear h1 h2 h3 h4
  go_enter Try.func17, Try.ntmps17
  go_wp2_with fail
  refine HK.out.mono ?_
  rintro e w1 ⟨ps, Ak, ck, rfl, hk, hp, hs⟩
  have heq := agree_keys HA.out hp hs
  have hl : ps.length = L.length := by have := congrArg List.length heq; simpa using this
  have HEQ := hide heq
  have HKA := hide hk.at_
  have X1 := hide hk.ext
  have HX1 := hide (HX.out.ext hk.ext)
  have HR1 := hide (HR.out.ext hk.ext)
  rw [hl]
  have HL := hide hl
  clear hk hp hs heq hl HK HX HR
  have a2 := cell_ext (show w1.cell? ⟨d, 2, none⟩ = some (.slice A L.length a) from HR1.out.blk.cell 2)
  have a1 := cell_ext (show w1.cell? ⟨d, 1, none⟩ = some (.int .i64 p) from HR1.out.blk.cell 1)
  go_wp2_with fail
  refine wp_region_ext 17 (by kernel_rfl) (by kernel_rfl) (by kernel_rfl) ?_
  iterate 17
    refine wpE_k (by kernel_rfl) (by kernel_rfl) ?_
    apply Exists.intro
    refine ⟨fun w1 hw1 => ?_, fun K hK => ?_⟩
    · go_simp; first | done | rfl | exact (probes_any (HX1.out.ext hw1)).mono fun _ _ h => ⟨h.1, h.2 ▸ Ext.refl _⟩
    go_simp; refine hK _ _ ?_; clear hK K
  refine wpE_nil ⟨rfl, by kernel_rfl, fun wq hwq => ?_⟩
  simp only [EndQ]
  refine wpList_nil ?_
  have X2 := hide (X1.out.trans hwq)
  have HKA2 := hide (HKA.out.ext hwq)
  have HR2 := hide (HR1.out.ext hwq)
  clear hwq a1 a2 HKA HR1 HX1 X1
  go_wp2_with fail
  go_loopw [28] (fun s28 w' => ∃ i : Nat, i ≤ L.length ∧ s28 = .int .i64 i ∧ Hid (Ext wq w')) (fun s28 _ => L.length - (intOf s28).toNat)
  case atStart => exact ⟨0, by omega, rfl, Ext.refl _⟩
  case round =>
    obtain ⟨i, hi, rfl, hX⟩ := hrel
    by_cases hil : i < L.length
    · have hs := List.getElem?_eq_getElem hil
      obtain ⟨g, rfl, c0, _⟩ := (HR2.out.ext hX.out).key hs
      have hil2 : i < ps.length := by rw [HL.out]; exact hil
      have hq : ps[i]? = some ps[i] := List.getElem?_eq_getElem hil2
      have hqr : ps[i].r = keyOf L[i] := by
        have h1 : (ps.map KP.r)[i]? = (L.map keyOf)[i]? := by rw [HEQ.out]
        rw [List.getElem?_map, List.getElem?_map, hs, hq] at h1
        simpa using h1
      obtain ⟨gk, rfl, b0, hKy, _⟩ := (HKA2.out.ext hX.out).get hq
      rw [hqr] at hKy
      have cv : ∀ w2, Ext wr w2 → (convert 30 9 (.slice ps[i].A ps[i].n ps[i].c)).run Try.prog w2 = .ok (.string L[i]) w2 := fun w2 hw => by
        have := key_conv (hKy.ext hw) ps[i].c
        rwa [keyOf_text] at this
      have a2 := cell_ext (show wr.cell? ⟨d, 2, none⟩ = some (.slice (some ⟨g, 0, none⟩) L.length a) from (HR2.out.ext hX.out).blk.cell 2)
      have b0 := cell_ext b0
      have c0 := cell_ext c0
      have hk0 : (0 : Int) ≤ (i : Int) := by omega
      have hk1 : (i : Int) < (L.length : Int) := by omega
      clear hs hq hqr hKy
      generalize L[i] = s at *
      generalize ps[i] = q at *
      go_wp2_with fail
      refine wp_region_ext 13 (by kernel_rfl) (by kernel_rfl) (by kernel_rfl) ?_
      iterate 13
        refine wpE_k (by kernel_rfl) (by kernel_rfl) ?_
        apply Exists.intro
        refine ⟨fun w1 hw1 => ?_, fun K hK => ?_⟩
        · go_simp; first | done | rfl
        go_simp; refine hK _ _ ?_; clear hK K
      refine wpE_nil ⟨rfl, by kernel_rfl, fun wq hwq => ?_⟩
      simp only [EndQ]
      refine wpList_nil ?_
      have X3 := hide (hX.out.trans hwq)
      clear hwq a2 b0 c0 cv
      go_wp2_with fail
      go_roundw
      case rel => exact ⟨i + 1, by omega, by go_num, X3.out⟩
      case measure => simp [intOf]; omega
    · go_wp2_with fail
      go_ret
      exact ⟨rfl, X2.out.trans hX.out⟩
end Go.Proofs.Ytlpbkhdpfmknkaa
