/-
  contain.Core: the walk.
-/
import Derived.Test.YtpfjkjmimmklcaaWithout
import Derived.Test.YtpfjkjmimmklcaaLawFinds
import Derived.Test.YtpfjkjmimmklcaaCon
import Derived.Test.YtpfjkjmimmklcaaApp2
import Derived.ScopeJumps
import Derived.WalkMore
namespace Go.Proofs.Ytpfjkjmimmklcaa
open Go.RowKit

theorem wp_scope_pass {P : Program} {a : Act} {w : World} {Q : Exit → Act → World → Prop} {c rest : Code} (l : Nat) (J : Act → World → Prop) (μ : Act → World → Nat) (hf : findLabel c l = some (Code.skip.seq rest))
    (pass : ∀ a w, J a w → rest.wp P (Exit.jump l (fun a' w' => J a' w' ∧ μ a' w' < μ a w) Q) a w)
    (first : (∀ a w, J a w → rest.wp P (Exit.jump l J Q) a w) → c.wp P (Exit.jump l J Q) a w) : (Code.scope c).wp P Q a w :=
  wp_scope_jumps l J μ hf (first fun a w h => Code.wp_mono (fun e a' w' hq => by
    cases e with
    | goto l' => exact ⟨hq.1, hq.2.1⟩
    | _ => exact hq) (pass a w h)) (fun a w h => wp_seq (wp_skip (pass a w h)))

/-- the query that is being lessened: the parameter's block, the result's block, where its atoms lie -/
structure CW (w w' : World) (nm : ByteArray) (A : Option Addr) (n c : Nat) (as_ : List Atm) (B : Option Addr) (m d : Nat) (cells : List Value) : Prop where
  ext : Ext w w'
  par : Blk w' w.heap.size 25 #[.string nm, .slice A n c, .slice B m d]
  res : Blk w' (w.heap.size + 1) 25 #[.string ⟨#[]⟩, .slice none 0 0, .slice none 0 0]
  els : Els RA 2 w cells as_
  sl : Sl w' B m 2 cells
  len : m = as_.length
theorem CW.go {w w' w2 : World} {nm : ByteArray} {A : Option Addr} {n c : Nat} {as_ : List Atm} {B : Option Addr} {m d : Nat} {cells : List Value} (h : CW w w' nm A n c as_ B m d cells) (hw : Ext w' w2) : CW w w2 nm A n c as_ B m d cells :=
  ⟨h.ext.trans hw, h.par.ext hw, h.res.ext hw, h.els, h.sl.ext hw, h.len⟩
theorem CW.qat {w w' : World} {nm : ByteArray} {A : Option Addr} {n c : Nat} {as_ : List Atm} {B : Option Addr} {m d : Nat} {cells : List Value} {hd : List ByteArray} (h : CW w w' nm A n c as_ B m d cells) (hh : LAt RS 1 w A n hd) (hc : n ≤ c) : QAt w' ⟨A, n, c, B, m, d⟩ ⟨nm, hd, as_⟩ :=
  ⟨hh.ext RS.stab h.ext, ⟨h.len, cells, h.els.ext RA.stab h.ext, h.sl⟩, hc⟩
/-- how many atoms the parameter has -/
def parLen (w w' : World) : Nat := match w'.cell? ⟨w.heap.size, 2, none⟩ with | some (.slice _ m _) => m | _ => 0
theorem CW.parLen {w w' : World} {nm : ByteArray} {A : Option Addr} {n c : Nat} {as_ : List Atm} {B : Option Addr} {m d : Nat} {cells : List Value} (h : CW w w' nm A n c as_ B m d cells) : parLen w w' = m := by
  have : w'.cell? ⟨w.heap.size, 2, none⟩ = some (.slice B m d) := h.par.cell 2
  unfold Go.Proofs.Ytpfjkjmimmklcaa.parLen
  rw [this]

theorem withoutQ_small {q : Qy} {M i : Nat} (h : smallM M q) : smallM M (withoutQ q i) :=
  ⟨h.name, h.headL, h.heads, by have := h.atomsL; simp only [withoutQ, List.length_append, List.length_take, List.length_drop]; omega, fun a ha => h.atoms a (by
    simp only [withoutQ, List.mem_append] at ha
    exact ha.elim List.mem_of_mem_take List.mem_of_mem_drop)⟩
theorem coreP_step {q : Qy} {i : Nat} (h : firstOut q 0 q.atoms.length = some i) (hl : (withoutQ q i).atoms.length + 1 = q.atoms.length) : coreP q.atoms.length q = coreP (withoutQ q i).atoms.length (withoutQ q i) := by
  have : ∀ k, k + 1 = q.atoms.length → coreP (k + 1) q = coreP k (withoutQ q i) := fun k _ => by simp only [coreP, h]
  rw [← this _ hl, hl]
theorem coreP_stop {q : Qy} (h : firstOut q 0 q.atoms.length = none) : ∀ k, coreP k q = q
  | 0 => rfl
  | k + 1 => by simp only [coreP, h]
def RetCore (w0 : World) (r : Qy × Int) (en : Ending) (w' : World) : Prop := ∃ L, en = .returned (.tuple #[qval r.1.name L, .int .i64 r.2]) ∧ QAt w' L r.1 ∧ Ext w0 w'

theorem own_keep {w w' : World} {b1 b2 s1 s2 n1 n2 : Nat} {e1 e2 : TypeId} {v1 v2 : Value} {x1 x2 : List Value} (h : w.ownsRow b1 e1 s1 v1 n1 x1) (k : w.ownsRow b2 e2 s2 v2 n2 x2) (hne : e1 ≠ e2) (hg : w.grownBy w' v2.ownBlock) : w'.ownsRow b1 e1 s1 v1 n1 x1 := by
  refine h.kept hg ?_
  rcases h.2 with ⟨h1, _⟩ | ⟨g, cap, cur, h1, _, hc, _⟩
  · exact .inl (by rw [h1]; rfl)
  · right
    intro he
    have hk : v2.ownBlock = some g := by rw [← he, h1]; rfl
    exact own_ne_blk (cs := cur) k hc (Ne.symm hne) hk.symm
/-- an atom whose terms lie in a row of their own -/
def RO : World → List Value → Atm → Prop := fun w cs a => ∃ A c, cs = [.string a.rel, .slice A a.terms.length c] ∧ w.ownsRow 0 60 4 (.slice A a.terms.length c) a.terms.length (tmC a.terms)
theorem RO.atom {w : World} {cs : List Value} {a : Atm} (h : RO w cs a) : RA w cs a := by
  obtain ⟨A, c, h1, h2⟩ := h
  exact ⟨A, _, c, h1, LAt.own rfl (tmC_els w a.terms) h2⟩
theorem RO.stab : Stab RO := fun _ _ _ _ hw ⟨A, c, h1, h2⟩ => ⟨A, c, h1, own_ext h2 hw⟩
theorem RO.keep {w w' : World} {b s n : Nat} {v : Value} {x : List Value} (k : w.ownsRow b 40 s v n x) (hg : w.grownBy w' v.ownBlock) (cs : List Value) (a : Atm) (h : RO w cs a) : RO w' cs a := by
  obtain ⟨A, c, h1, h2⟩ := h
  exact ⟨A, c, h1, own_keep h2 k (by decide) hg⟩
theorem RO.set {w : World} {g : Nat} {cs0 : Array Value} (hb : Blk w g 25 cs0) (i : Nat) (u : Value) (cs : List Value) (a : Atm) (h : RO w cs a) : RO (w.setCell ⟨g, i, none⟩ u) cs a := by
  obtain ⟨A, c, h1, h2⟩ := h
  exact ⟨A, c, h1, own_set h2 hb (by decide) i u⟩
/-- the answer that is being filled -/
structure OInv (W w : World) (g : Nat) (nm : ByteArray) (hd : List ByteArray) (Ah : Option Addr) (n ch : Nat) (as_ : List Atm) (i : Nat) (A : Option Addr) (c : Nat) : Prop where
  var : Blk w g 25 #[.string nm, .slice Ah n ch, .slice A i c]
  head : w.ownsRow 0 9 1 (.slice Ah n ch) n (strC hd)
  atoms : ∃ cells, Els RO 2 w cells (as_.take i) ∧ w.ownsRow W.heap.size 40 2 (.slice A i c) i cells
  ext : Ext W w
theorem Sl.far {w : World} {b off n s g : Nat} {xs : List Value} (h : Sl w (some ⟨b, off, none⟩) n s xs) (hne : b ≠ g) (i : Nat) (u : Value) : Sl (w.setCell ⟨g, i, none⟩ u) (some ⟨b, off, none⟩) n s xs :=
  ⟨h.1, fun hn => by
    obtain ⟨b', off', hA, hc⟩ := h.2 hn
    injection hA with hA
    injection hA with e1 e2
    subst e1; subst e2
    exact ⟨b, off, rfl, fun j v hv => by
      rw [World.cell?_setCell_other]
      · exact hc j v hv
      · intro e; exact hne (congrArg Addr.block e).symm⟩⟩

theorem slS {w : World} {A : Option Addr} {n : Nat} {xs : List ByteArray} (h : LAt RS 1 w A n xs) : Sl w A n 1 (strC xs) := by
  obtain ⟨h1, cells, h2, h3⟩ := h
  have : cells = strC xs := Els.flat_eq h2
  rw [← this]; exact h3
theorem slT {w : World} {A : Option Addr} {n : Nat} {xs : List Tm} (h : LAt RT 4 w A n xs) : Sl w A n 4 (tmC xs) := by
  obtain ⟨h1, cells, h2, h3⟩ := h
  have : cells = tmC xs := Els.flat_eq h2
  rw [← this]; exact h3
theorem hnn {w : World} {nm : ByteArray} {A : Option Addr} {n : Nat} {xs : List ByteArray} {as_ : List Atm} (h : smallM 1048576 ⟨nm, xs, as_⟩) (k : LAt RS 1 w A n xs) : n ≤ 16777216 := by
  have := h.headL; have := k.len; simp only at *; omega

set_option maxHeartbeats 4000000 in
set_option maxRecDepth 100000 in
theorem core_ok (q : Qy) (L : QLoc) (w : World) (hq : QAt w L q) (hM : smallM 1048576 q) (hs : shapeQ q = 0) :
    Calls Try.prog 40 #[qval q.name L] w (RetCore w (coreP q.atoms.length q, 0)) := by
  obtain ⟨i0, hi0, hz0, hz1, hz2⟩ := info_parts infoA
  obtain ⟨A, n, c, B, m, d⟩ := L
  obtain ⟨nm, hd, as_⟩ := q
  have HSH := hide (fun w1 (h1 : Ext w w1) => query_shape _ _ w1 (hq.ext h1) hM)
  rw [hs] at HSH
  simp only [qval] at HSH ⊢
  have HH := hide (hq.head); have HC := hide hq.cap; have HM := hide hM
  obtain ⟨hml, cells, hels, hsl⟩ := hq.atoms
  have hE2 := (Ext.alloc w (.cells #[.string nm, .slice A n c, .slice B m d] 25)).alloc' (.cells #[.string ⟨#[]⟩, .slice none 0 0, .slice none 0 0] 25)
  have CW0 : CW w ((w.alloc (.cells #[.string nm, .slice A n c, .slice B m d] 25)).alloc (.cells #[.string ⟨#[]⟩, .slice none 0 0, .slice none 0 0] 25)) nm A n c as_ B m d cells :=
    ⟨hE2, (Blk.new w 25 #[.string nm, .slice A n c, .slice B m d]).ext (Ext.alloc _ _), Blk.newAt (World.size_alloc _ _), hels, hsl.ext hE2, hml⟩
  generalize hW2 : (w.alloc (.cells #[.string nm, .slice A n c, .slice B m d] 25)).alloc (.cells #[.string ⟨#[]⟩, .slice none 0 0, .slice none 0 0] 25) = W2 at *
  have HW2 := hide hW2; have HCW := hide CW0; have HS := hide hs
  clear hW2 CW0 hq hM hs hml hels hsl hE2
  go_enter Try.func40, Try.ntmps40
  go_wp2_with fail
  rw [HW2.out]
  refine wp_scope_pass 0 (fun a' w' => ∃ (as' : List Atm) (B' : Option Addr) (m' d' : Nat) (cells' : List Value) (u5 u6 u7 u8 u9 u10 u11 u12 u13 u14 u15 u16 u17 u18 u19 u20 u21 u22 u23 u24 u25 u26 u27 u28 u29 u30 u31 u32 u33 u34 u35 u36 u37 u38 u39 u40 u41 u42 u43 u44 u45 u46 u47 u48 u49 u50 u51 u52 u53 u54 u55 u56 u57 u58 u59 u60 u61 u62 u63 u64 : Value), a' = { tmps := #[.agg #[.string nm, .slice A n c, .slice B m d], .pointer (some ⟨w.heap.size, 0, none⟩), .pointer (some ⟨w.heap.size + 1, 0, none⟩), .int .i64 0, .int .i64 0, u5, u6, u7, u8, u9, u10, u11, u12, u13, u14, u15, u16, u17, u18, u19, u20, u21, u22, u23, u24, u25, u26, u27, u28, u29, u30, u31, u32, u33, u34, u35, u36, u37, u38, u39, u40, u41, u42, u43, u44, u45, u46, u47, u48, u49, u50, u51, u52, u53, u54, u55, u56, u57, u58, u59, u60, u61, u62, u63, u64], defers := [] } ∧
      Hid (CW w w' nm A n c as' B' m' d' cells') ∧ Hid (smallM 1048576 ⟨nm, hd, as'⟩ ∧ shapeQ ⟨nm, hd, as'⟩ = 0 ∧ coreP as'.length ⟨nm, hd, as'⟩ = coreP as_.length ⟨nm, hd, as_⟩)) (fun _ w' => parLen w w') rfl ?_ ?_
  case refine_2 =>
    intro hrest
    have HREST := hide hrest; clear hrest
    have a0 : W2.cell? ⟨w.heap.size, 0, none⟩ = some (.string nm) := HCW.out.par.cell 0
    have a1 : W2.cell? ⟨w.heap.size, 1, none⟩ = some (.slice A n c) := HCW.out.par.cell 1
    have a2 : W2.cell? ⟨w.heap.size, 2, none⟩ = some (.slice B m d) := HCW.out.par.cell 2
    go_wp2_with ((with_reducible refine (HSH.out _ HCW.out.ext).mono ?_); rintro e w1 ⟨rfl, h1⟩; have E1 := hide h1; clear h1)
    go_step3
    simp only [Exit.then]
    rename_i K hK
    refine hK _ _ (HREST.out _ _ ?_)
    exact ⟨as_, B, m, d, cells, _, _, _, _, _, _, _, _, _, _, _, _, _, _, _, _, _, _, _, _, _, _, _, _, _, _, _, _, _, _, _, _, _, _, _, _, _, _, _, _, _, _, _, _, _, _, _, _, _, _, _, _, _, _, _, _, _, _, _, _, rfl, HCW.out.go E1.out, HM.out, HS.out, rfl⟩
  case refine_1 =>
    rintro a' w1 ⟨as', B', m', d', cells', u5, u6, u7, u8, u9, u10, u11, u12, u13, u14, u15, u16, u17, u18, u19, u20, u21, u22, u23, u24, u25, u26, u27, u28, u29, u30, u31, u32, u33, u34, u35, u36, u37, u38, u39, u40, u41, u42, u43, u44, u45, u46, u47, u48, u49, u50, u51, u52, u53, u54, u55, u56, u57, u58, u59, u60, u61, u62, u63, u64, rfl, hcw, hsm, hsh, hcp⟩
    dsimp only
    have b0 : w1.cell? ⟨w.heap.size, 0, none⟩ = some (.string nm) := hcw.out.par.cell 0
    have b1 : w1.cell? ⟨w.heap.size, 1, none⟩ = some (.slice A n c) := hcw.out.par.cell 1
    have b2 : w1.cell? ⟨w.heap.size, 2, none⟩ = some (.slice B' m' d') := hcw.out.par.cell 2
    have hm20 : m' ≤ 1048576 := by have := hsm.atomsL; have := hcw.out.len; simp only at *; omega
    clear HSH HCW HS HM HW2
    go_wp2_with fail
    clear b0 b1 b2
    go_loopw [5, 6, 7, 8, 21] (fun _ _ _ _ s21 w' => ∃ i : Nat, i ≤ m' ∧ s21 = .int .i64 i ∧ Hid (Ext w1 w') ∧ Hid (firstOut ⟨nm, hd, as'⟩ 0 m' = firstOut ⟨nm, hd, as'⟩ i (m' - i))) (fun _ _ _ _ s21 _ => m' - (intOf s21).toNat)
    case atStart => exact ⟨0, by omega, rfl, Ext.refl _, rfl⟩
    case round =>
      obtain ⟨i, him, rfl, hX, hfo⟩ := hrel
      have HCW := hide (hcw.out.go hX.out)
      have b0 : wr.cell? ⟨w.heap.size, 0, none⟩ = some (.string nm) := HCW.out.par.cell 0
      have b1 : wr.cell? ⟨w.heap.size, 1, none⟩ = some (.slice A n c) := HCW.out.par.cell 1
      have b2 : wr.cell? ⟨w.heap.size, 2, none⟩ = some (.slice B' m' d') := HCW.out.par.cell 2
      by_cases h : i < m'
      · have HWO := hide (fun w2 (h2 : Ext wr w2) => without_any nm A B' n c m' d' i cells' w2 (HCW.out.sl.ext h2) HCW.out.els.one hm20 h)
        have hil := hide (show i < as'.length from HCW.out.len ▸ h)
        have HQW := hide (show ∀ (g5 d5 : Nat) (w3 : World), Sl w3 (some ⟨g5, 0, none⟩) (m' - 1) 2 (cells'.take (i * 2) ++ cells'.drop ((i + 1) * 2)) → Ext w w3 → QAt w3 ⟨A, n, c, some ⟨g5, 0, none⟩, m' - 1, d5⟩ (withoutQ ⟨nm, hd, as'⟩ i) from fun g5 d5 w3 hs3 h3 =>
          ⟨HH.out.ext RS.stab h3, ⟨by have := withoutQ_len (q := ⟨nm, hd, as'⟩) hil.out; have := HCW.out.len; simp only at *; omega, _, ((HCW.out.els.take i).append (HCW.out.els.drop (i + 1))).ext RA.stab h3, hs3⟩, HC.out⟩)
        have hst := hide (show firstOut ⟨nm, hd, as'⟩ i (m' - i) = if outB ⟨nm, hd, as'⟩ i then some i else firstOut ⟨nm, hd, as'⟩ (i + 1) (m' - (i + 1)) by
          rw [show m' - i = (m' - (i + 1)) + 1 by omega]; rfl)
        have HSR := hide (fun g5 d5 w3 hq => query_shape (withoutQ ⟨nm, hd, as'⟩ i) ⟨A, n, c, some ⟨g5, 0, none⟩, m' - 1, d5⟩ w3 hq (withoutQ_small hsm))
        have HCO := hide (fun g5 d5 w3 (h3 : Ext wr w3) hq => contains_any ⟨nm, hd, as'⟩ (withoutQ ⟨nm, hd, as'⟩ i) ⟨A, n, c, B', m', d'⟩ ⟨A, n, c, some ⟨g5, 0, none⟩, m' - 1, d5⟩ w3 ((HCW.out.go h3).qat HH.out HC.out) hq hsm (withoutQ_small hsm))
        have hob : Hid (outB ⟨nm, hd, as'⟩ i = (decide (shapeQ (withoutQ ⟨nm, hd, as'⟩ i) = 0) && (findR ⟨nm, hd, as'⟩ (withoutQ ⟨nm, hd, as'⟩ i)).2.1)) := rfl
        have hrg := shapeQ_rng (withoutQ ⟨nm, hd, as'⟩ i)
        simp only [qval] at HSR HCO
        have hnm : (withoutQ ⟨nm, hd, as'⟩ i).name = nm := rfl
        simp only [hnm] at HSR HCO
        clear hnm
        generalize outB ⟨nm, hd, as'⟩ i = ob at *
        have hsqz := hide (show ∀ z, shapeQ (withoutQ ⟨nm, hd, as'⟩ i) = z → z = 0 → shapeQ (withoutQ ⟨nm, hd, as'⟩ i) = 0 from fun z h1 h2 => h1.trans h2)
        generalize hsqe : shapeQ (withoutQ ⟨nm, hd, as'⟩ i) = sq at *
        have hsz0 := hide hsqe; clear hsqe hsqz
        generalize findR ⟨nm, hd, as'⟩ (withoutQ ⟨nm, hd, as'⟩ i) = fr at *
        obtain ⟨im, fb, fe⟩ := fr
        dsimp only at *
        have hm1 := hide h; clear h
        by_cases hs0 : sq = 0
        · subst hs0
          have hsz := hsz0
          have hob2 := hide (show ob = fb by rw [hob.out]; simp)
          cases fb with
          | true =>
            go_wp2_with (first
              | ((with_reducible refine (HWO.out _ (Ext.refl _)).mono ?_); rintro e w2 ⟨g5, d5, rfl, o5, x5⟩; have G5 := hide (o5.lt g5 rfl).1; have S5 := hide (Sl.own o5); have X5 := hide x5; clear o5 x5)
              | ((with_reducible refine (HSR.out g5 d5 _ (HQW.out g5 d5 _ (S5.out.ext (Ext.alloc w2 _)) ((HCW.out.ext.trans X5.out).alloc' _))).mono ?_); rintro e w4 ⟨rfl, h4⟩; have X4 := hide ((X5.out.alloc' _).trans h4)
                 have S4 := hide (S5.out.ext ((Ext.alloc w2 _).trans h4))
                 have BR := hide ((Blk.new w2 25 #[.string nm, .slice A n c, .slice (some ⟨g5, 0, none⟩) (m' - 1) d5]).ext h4)
                 have c0 : w4.cell? ⟨w2.heap.size, 0, none⟩ = some (.string nm) := BR.out.cell 0
                 have c1 : w4.cell? ⟨w2.heap.size, 1, none⟩ = some (.slice A n c) := BR.out.cell 1
                 have c2 : w4.cell? ⟨w2.heap.size, 2, none⟩ = some (.slice (some ⟨g5, 0, none⟩) (m' - 1) d5) := BR.out.cell 2
                 have b0 : w4.cell? ⟨w.heap.size, 0, none⟩ = some (.string nm) := (HCW.out.par.ext X4.out).cell 0
                 have b1 : w4.cell? ⟨w.heap.size, 1, none⟩ = some (.slice A n c) := (HCW.out.par.ext X4.out).cell 1
                 have b2 : w4.cell? ⟨w.heap.size, 2, none⟩ = some (.slice B' m' d') := (HCW.out.par.ext X4.out).cell 2
                 clear h4)
              | ((with_reducible refine (HCO.out g5 d5 _ X4.out (HQW.out g5 d5 _ S4.out (HCW.out.ext.trans X4.out))).mono ?_); rintro e w5 ⟨rfl, h5⟩; have X6 := hide (X4.out.trans h5); have S6 := hide (S4.out.ext h5); have BR6 := hide (BR.out.ext h5); clear h5 b0 b1 b2 c0 c1 c2
                 have c0 : w5.cell? ⟨w2.heap.size, 0, none⟩ = some (.string nm) := BR6.out.cell 0
                 have c1 : w5.cell? ⟨w2.heap.size, 1, none⟩ = some (.slice A n c) := BR6.out.cell 1
                 have c2 : w5.cell? ⟨w2.heap.size, 2, none⟩ = some (.slice (some ⟨g5, 0, none⟩) (m' - 1) d5) := BR6.out.cell 2
                 have b0 : w5.cell? ⟨w.heap.size, 0, none⟩ = some (.string nm) := (HCW.out.par.ext X6.out).cell 0
                 have b1 : w5.cell? ⟨w.heap.size, 1, none⟩ = some (.slice A n c) := (HCW.out.par.ext X6.out).cell 1
                 have b2 : w5.cell? ⟨w.heap.size, 2, none⟩ = some (.slice B' m' d') := (HCW.out.par.ext X6.out).cell 2
                 have f0 := (HCW.out.par.ext X6.out).frozen 0
                 have f1 := (HCW.out.par.ext X6.out).frozen 1
                 have f2 := (HCW.out.par.ext X6.out).frozen 2))
            go_step3
            have h1 := hst.out
            rw [hob2.out] at h1
            have hfi := hide (hfo.out.trans h1)
            have hgw : w.heap.size + 1 < wr.heap.size := HCW.out.res.lt
            have hg5 : g5 ≠ w.heap.size := by have := G5.out; omega
            have hlt := hm1.out
            have hnl := withoutQ_len (q := ⟨nm, hd, as'⟩) hil.out
            have hE : Ext w w5 := HCW.out.ext.trans X6.out
            have hP := HCW.out.par.ext X6.out
            have hR := HCW.out.res.ext X6.out
            have hCW : CW w (((w5.setCell ⟨w.heap.size, 0, none⟩ (.string nm)).setCell ⟨w.heap.size, 1, none⟩ (.slice A n c)).setCell ⟨w.heap.size, 2, none⟩ (.slice (some ⟨g5, 0, none⟩) (m' - 1) d5)) nm A n c (withoutQ ⟨nm, hd, as'⟩ i).atoms (some ⟨g5, 0, none⟩) (m' - 1) d5 (cells'.take (i * 2) ++ cells'.drop ((i + 1) * 2)) := by
              refine ⟨hE.set3 (Nat.le_refl _) _ _ _, blk_set3 hP _ _ _, hR.far3 (by omega) _ _ _, (HCW.out.els.take i).append (HCW.out.els.drop (i + 1)), ((S6.out.far hg5 _ _).far hg5 _ _).far hg5 _ _, ?_⟩
              have := HCW.out.len
              simp only at *
              omega
            refine ⟨rfl, ⟨_, _, _, _, _, _, _, _, _, _, _, _, _, _, _, _, _, _, _, _, _, _, _, _, _, _, _, _, _, _, _, _, _, _, _, _, _, _, _, _, _, _, _, _, _, _, _, _, _, _, _, _, _, _, _, _, _, _, _, _, _, _, _, _, _, rfl, hCW, ?_, ?_, ?_⟩, ?_⟩
            · exact withoutQ_small hsm
            · exact hsz.out
            · exact (coreP_step (by rw [← HCW.out.len]; simpa using hfi.out) hnl).symm.trans hcp
            · rw [hCW.parLen, hcw.out.parLen]
              omega
          | false =>
            go_wp2_with (first
              | ((with_reducible refine (HWO.out _ (Ext.refl _)).mono ?_); rintro e w2 ⟨g5, d5, rfl, o5, x5⟩; have G5 := hide (o5.lt g5 rfl).1; have S5 := hide (Sl.own o5); have X5 := hide x5; clear o5 x5)
              | ((with_reducible refine (HSR.out g5 d5 _ (HQW.out g5 d5 _ (S5.out.ext (Ext.alloc w2 _)) ((HCW.out.ext.trans X5.out).alloc' _))).mono ?_); rintro e w4 ⟨rfl, h4⟩; have X4 := hide ((X5.out.alloc' _).trans h4)
                 have S4 := hide (S5.out.ext ((Ext.alloc w2 _).trans h4))
                 have BR := hide ((Blk.new w2 25 #[.string nm, .slice A n c, .slice (some ⟨g5, 0, none⟩) (m' - 1) d5]).ext h4)
                 have c0 : w4.cell? ⟨w2.heap.size, 0, none⟩ = some (.string nm) := BR.out.cell 0
                 have c1 : w4.cell? ⟨w2.heap.size, 1, none⟩ = some (.slice A n c) := BR.out.cell 1
                 have c2 : w4.cell? ⟨w2.heap.size, 2, none⟩ = some (.slice (some ⟨g5, 0, none⟩) (m' - 1) d5) := BR.out.cell 2
                 have b0 : w4.cell? ⟨w.heap.size, 0, none⟩ = some (.string nm) := (HCW.out.par.ext X4.out).cell 0
                 have b1 : w4.cell? ⟨w.heap.size, 1, none⟩ = some (.slice A n c) := (HCW.out.par.ext X4.out).cell 1
                 have b2 : w4.cell? ⟨w.heap.size, 2, none⟩ = some (.slice B' m' d') := (HCW.out.par.ext X4.out).cell 2
                 clear h4)
              | ((with_reducible refine (HCO.out g5 d5 _ X4.out (HQW.out g5 d5 _ S4.out (HCW.out.ext.trans X4.out))).mono ?_); rintro e w5 ⟨rfl, h5⟩; have X6 := hide (X4.out.trans h5); have S6 := hide (S4.out.ext h5); have BR6 := hide (BR.out.ext h5); clear h5 b0 b1 b2 c0 c1 c2
                 have c0 : w5.cell? ⟨w2.heap.size, 0, none⟩ = some (.string nm) := BR6.out.cell 0
                 have c1 : w5.cell? ⟨w2.heap.size, 1, none⟩ = some (.slice A n c) := BR6.out.cell 1
                 have c2 : w5.cell? ⟨w2.heap.size, 2, none⟩ = some (.slice (some ⟨g5, 0, none⟩) (m' - 1) d5) := BR6.out.cell 2
                 have b0 : w5.cell? ⟨w.heap.size, 0, none⟩ = some (.string nm) := (HCW.out.par.ext X6.out).cell 0
                 have b1 : w5.cell? ⟨w.heap.size, 1, none⟩ = some (.slice A n c) := (HCW.out.par.ext X6.out).cell 1
                 have b2 : w5.cell? ⟨w.heap.size, 2, none⟩ = some (.slice B' m' d') := (HCW.out.par.ext X6.out).cell 2
                 have f0 := (HCW.out.par.ext X6.out).frozen 0
                 have f1 := (HCW.out.par.ext X6.out).frozen 1
                 have f2 := (HCW.out.par.ext X6.out).frozen 2))
            go_roundw
            case rel => exact ⟨i + 1, by have := hm1.out; omega, by go_num, hX.out.trans X6.out, by have h1 := hst.out; rw [hob2.out] at h1; exact hfo.out.trans h1⟩
            case measure => have := hm1.out; simp [intOf]; omega
        · have hs1 : (sq != 0) = true := by simpa using hs0
          have hob2 := hide (show ob = false by rw [hob.out]; simp [hs0])
          clear hs0
          go_wp2_with (first
            | ((with_reducible refine (HWO.out _ (Ext.refl _)).mono ?_); rintro e w2 ⟨g5, d5, rfl, o5, x5⟩; have S5 := hide (Sl.own o5); have X5 := hide x5; clear o5 x5)
            | ((with_reducible refine (HSR.out g5 d5 _ (HQW.out g5 d5 _ (S5.out.ext (Ext.alloc w2 _)) ((HCW.out.ext.trans X5.out).alloc' _))).mono ?_); rintro e w4 ⟨rfl, h4⟩; have X4 := hide ((X5.out.alloc' _).trans h4); clear h4))
          go_roundw
          case rel => exact ⟨i + 1, by have := hm1.out; omega, by go_num, hX.out.trans X4.out, by have h1 := hst.out; rw [hob2.out] at h1; exact hfo.out.trans h1⟩
          case measure => have := hm1.out; simp [intOf]; omega
      · have hcore := hide (show coreP as_.length ⟨nm, hd, as_⟩ = ⟨nm, hd, as'⟩ by
          have h1 := hfo.out
          rw [show m' - i = 0 by omega] at h1
          have h2 : firstOut ⟨nm, hd, as'⟩ 0 as'.length = none := by rw [← HCW.out.len]; exact h1
          rw [← hcp]
          exact coreP_stop h2 _)

        have hml := hide HCW.out.len
        have hmi : i = m' := by omega
        subst hmi
        clear hcp hfo hsh
        have HM := hide hsm; clear hsm
        have HCH := hide (fun w2 (h2 : Ext wr w2) => cloneS (strC hd) A n c w2 ((slS HH.out).ext (HCW.out.ext.trans h2)) (strC_els w hd).one (hnn HM.out HH.out))
        have HBP := hide HCW.out.par
        have HQA := hide (HCW.out.qat HH.out HC.out).atoms
        have HEW := hide HCW.out.ext
        have HBR := hide HCW.out.res
        go_wp2_with fail
        have c0 := cell_ext b0
        have c1 := cell_ext b1
        refine wp_region_ext 7 (by kernel_rfl) (by kernel_rfl) (by kernel_rfl) ?_
        iterate 4
          refine wpE_k (by kernel_rfl) (by kernel_rfl) ?_
          apply Exists.intro
          refine ⟨fun w1 hw1 => ?_, fun K hK => ?_⟩
          · go_simp; first | done | rfl
          go_simp; refine hK _ _ ?_; clear hK K
        refine wpE_p [] (fun u w1 => ∃ A2 c2, u = .slice A2 n c2 ∧ w1.ownsRow 0 9 1 (.slice A2 n c2) n (strC hd)) (fun u w1 w2 _ h2 ⟨A2, c2, h3, h4⟩ => ⟨A2, c2, h3, own_ext h4 h2⟩) rfl (by kernel_rfl) (fun w1 hw1 => ?_) ?_
        · simp only [LookQ]
          clear b0 b1 b2 c0 c1
          go_simp
          refine ⟨Ext.refl _, (HCH.out w1 hw1).mono ?_⟩
          rintro e w2 ⟨A2, c2, rfl, h1, h2⟩
          exact ⟨_, rfl, h2, A2, c2, rfl, own_base h1 (Nat.zero_le _)⟩
        refine wpE_p [43] (fun u w1 => ∃ A2 c2, u = .agg #[.string nm, .slice A2 n c2, .slice none 0 0] ∧ w1.ownsRow 0 9 1 (.slice A2 n c2) n (strC hd)) (fun u w1 w2 _ h2 ⟨A2, c2, h3, h4⟩ => ⟨A2, c2, h3, own_ext h4 h2⟩) rfl (by kernel_rfl) (fun w1 hw1 => ?_) ?_
        · simp only [LookQ]
          intro u hu
          obtain ⟨A2, c2, rfl, hO⟩ := hu _ rfl
          clear b0 b1 b2 c0 c1 hu
          go_simp
          exact ⟨Ext.refl _, _, _, ⟨rfl, rfl⟩, hO⟩
        refine wpE_p [] (fun u w1 => ∃ g, u = .pointer (some ⟨g, 0, none⟩) ∧ wr.heap.size ≤ g ∧ Blk w1 g 25 #[.string ⟨#[]⟩, .slice none 0 0, .slice none 0 0]) (fun u w1 w2 _ h2 ⟨g, h3, h4, h5⟩ => ⟨g, h3, h4, h5.ext h2⟩) rfl (by kernel_rfl) (fun w1 hw1 => ?_) ?_
        · simp only [LookQ]
          clear b0 b1 b2 c0 c1
          go_simp
          exact ⟨Ext.alloc _ _, hw1.size, Blk.new _ _ _⟩
        refine wpE_nil ⟨rfl, by kernel_rfl, fun wq hwq => ?_⟩
        simp only [EndQ]
        rintro _ ⟨g, rfl, hg, hB⟩ u44 ⟨A2, c2, rfl, hO⟩ u43 _
        clear c0 c1
        simp only [List.drop]
        have d0 : wq.cell? ⟨g, 0, none⟩ = some (.string ⟨#[]⟩) := hB.cell 0
        have d1 : wq.cell? ⟨g, 1, none⟩ = some (.slice none 0 0) := hB.cell 1
        have d2 : wq.cell? ⟨g, 2, none⟩ = some (.slice none 0 0) := hB.cell 2
        have f0 := hB.frozen 0
        have f1 := hB.frozen 1
        have f2 := hB.frozen 2
        have p2 : wq.cell? ⟨w.heap.size, 2, none⟩ = some (.slice B' i d') := (HBP.out.ext hwq).cell 2
        have HB := hide hB; have HO := hide hO; have HG := hide hg; have HWQ := hide hwq; clear hB hO hwq hg
        have hlp := HBP.out.lt
        have hgp : w.heap.size ≠ g := by have := HG.out; omega
        have hpg : g ≠ w.heap.size := by have := HG.out; omega
        have Hlp := hide hlp; clear hlp
        go_wp2_with fail
        have HS := hide (show OInv wr (((wq.setCell ⟨g, 0, none⟩ (.string nm)).setCell ⟨g, 1, none⟩ (.slice A2 n c2)).setCell ⟨g, 2, none⟩ (.slice none 0 0)) g nm hd A2 n c2 as' 0 none 0 from
          ⟨blk_set3 HB.out _ _ _, own_set (own_set (own_set HO.out HB.out (by decide) 0 _) (HB.out.set_ 0 _) (by decide) 1 _) ((HB.out.set_ 0 _).set_ 1 _) (by decide) 2 _, ⟨[], .nil, World.ownsRow_nil _ _ _ _⟩, HWQ.out.set3 HG.out _ _ _⟩)
        go_loopw [11, 48] (fun _ s48 w' => ∃ (k : Nat) (A8 : Option Addr) (c8 : Nat), k ≤ i ∧ s48 = .int .i64 k ∧ Hid (OInv wr w' g nm hd A2 n c2 as' k A8 c8)) (fun _ s48 _ => i - (intOf s48).toNat)
        case atStart => exact ⟨0, none, 0, by omega, rfl, HS.out⟩
        case round =>
          obtain ⟨k, A8, c8, hki, rfl, hI⟩ := hrel
          by_cases h2 : k < i
          · obtain ⟨b, off, a, B1, m1, d1, rfl, hx, hb1, e0, e1, hT⟩ := HQA.out.at_ h2
            have e0 := hI.out.ext.cell e0
            have e1 := hI.out.ext.cell e1
            have hml1 : m1 ≤ 1048576 := by have := (HM.out.atoms a (List.mem_of_getElem? hx)).len; have := hT.len; omega
            have HCT := hide (fun w2 (h3 : Ext wr w2) => cloneT (tmC a.terms) B1 m1 d1 w2 ((slT hT).ext (hI.out.ext.trans h3)) (tmC_els w a.terms).one (by omega))
            have Hml1 := hide hT.len
            have v2 : wr.cell? ⟨g, 2, none⟩ = some (.slice A8 k c8) := hI.out.var.cell 2
            have Hx := hide hx; clear hx hT
            have hgb : g < wr.heap.size := hI.out.var.lt
            go_wp2_with fail
            have BL := Blk.new wr 40 #[.string a.rel, .slice B1 m1 d1]
            have HI3 := hide (show OInv _ (wr.alloc (.cells #[.string a.rel, .slice B1 m1 d1] 40)) g nm hd A2 n c2 as' k A8 c8 from
              ⟨hI.out.var.ext (Ext.alloc _ _), own_ext hI.out.head (Ext.alloc _ _), (let ⟨cs, h3, h4⟩ := hI.out.atoms; ⟨cs, h3.ext RO.stab (Ext.alloc _ _), own_ext h4 (Ext.alloc _ _)⟩), hI.out.ext.alloc' _⟩)
            have X3 := hide (Ext.alloc wr (.cells #[.string a.rel, .slice B1 m1 d1] 40))
            have hs3 : (wr.alloc (.cells #[.string a.rel, .slice B1 m1 d1] 40)).heap.size = wr.heap.size + 1 := World.size_alloc _ _
            generalize hW3 : wr.alloc (.cells #[.string a.rel, .slice B1 m1 d1] 40) = W3 at *
            have HS3 := hide hs3; clear hs3 hW3
            have v2 : W3.cell? ⟨g, 2, none⟩ = some (.slice A8 k c8) := HI3.out.var.cell 2
            have e0 : W3.cell? ⟨wr.heap.size, 0, none⟩ = some (.string a.rel) := BL.cell 0
            have e1 : W3.cell? ⟨wr.heap.size, 1, none⟩ = some (.slice B1 m1 d1) := BL.cell 1
            have f2 : W3.frozen? ⟨g, 2, none⟩ = false := HI3.out.var.frozen 2
            have hgb : g < W3.heap.size := HI3.out.var.lt
            obtain ⟨ccs, p2, p3⟩ := HI3.out.atoms
            have hn2 : some g ≠ (Value.slice A8 k c8).ownBlock := own_ne_blk p3 HI3.out.var (by decide)
            have P2 := hide p2; have P3 := hide p3; clear p2 p3 BL
            have hk20 : k + 1 ≤ 1048576 := by omega
            refine wp_region_ext 9 (by kernel_rfl) (by kernel_rfl) (by kernel_rfl) ?_
            have v2 := cell_ext v2
            have e0 := cell_ext e0
            have e1 := cell_ext e1
            iterate 6
              refine wpE_k (by kernel_rfl) (by kernel_rfl) ?_
              apply Exists.intro
              refine ⟨fun w1 hw1 => ?_, fun K hK => ?_⟩
              · go_simp; first | done | rfl
              go_simp; refine hK _ _ ?_; clear hK K
            clear v2 e0 e1
            refine wpE_p [] (fun u w1 => ∃ A5 c5, u = .slice A5 m1 c5 ∧ w1.ownsRow 0 60 4 (.slice A5 m1 c5) m1 (tmC a.terms)) (fun u w1 w2 _ h2 ⟨A5, c5, h3, h4⟩ => ⟨A5, c5, h3, own_ext h4 h2⟩) rfl (by kernel_rfl) (fun w1 hw1 => ?_) ?_
            · simp only [LookQ]
              go_simp
              refine ⟨Ext.refl _, (HCT.out w1 (X3.out.trans hw1)).mono ?_⟩
              rintro e w2 ⟨A5, c5, rfl, h1, h2⟩
              exact ⟨_, rfl, h2, A5, c5, rfl, own_base h1 (Nat.zero_le _)⟩
            refine wpE_p [58] (fun u w1 => ∃ A5 c5, u = .agg #[.string a.rel, .slice A5 m1 c5] ∧ w1.ownsRow 0 60 4 (.slice A5 m1 c5) m1 (tmC a.terms)) (fun u w1 w2 _ h2 ⟨A5, c5, h3, h4⟩ => ⟨A5, c5, h3, own_ext h4 h2⟩) rfl (by kernel_rfl) (fun w1 hw1 => ?_) ?_
            · simp only [LookQ]
              intro u hu
              obtain ⟨A5, c5, rfl, hO⟩ := hu _ rfl
              clear hu
              go_simp
              exact ⟨Ext.refl _, _, _, ⟨rfl, rfl⟩, hO⟩
            refine wpE_p [59] (fun u w1 => ∃ gb A5 c5, u = .slice (some ⟨gb, 0, none⟩) 1 1 ∧ W3.heap.size ≤ gb ∧ Blk w1 gb 40 #[.string a.rel, .slice A5 m1 c5] ∧ w1.ownsRow 0 60 4 (.slice A5 m1 c5) m1 (tmC a.terms))
              (fun u w1 w2 _ h2 ⟨gb, A5, c5, h3, h4, h5, h6⟩ => ⟨gb, A5, c5, h3, h4, h5.ext h2, own_ext h6 h2⟩) rfl (by kernel_rfl) (fun w1 hw1 => ?_) ?_
            · simp only [LookQ]
              intro u hu
              obtain ⟨A5, c5, rfl, hO⟩ := hu _ rfl
              clear hu
              go_simp
              exact ⟨Ext.alloc _ _, hw1.size, _, _, Blk.new _ _ _, own_ext hO (Ext.alloc _ _)⟩
            refine wpE_nil ⟨rfl, by kernel_rfl, fun w1 hw1 => ?_⟩
            simp only [EndQ]
            rintro _ ⟨gb, A5, c5, rfl, hgb2, hBb, hO5⟩ u59 _ u58 _
            simp only [List.drop]
            have Hsrc := hide (show Sl w1 (some ⟨gb, 0, none⟩) 1 2 [.string a.rel, .slice A5 m1 c5] from hBb.sl (n := 1) (size := 2) rfl)
            have HO5 := hide hO5; have HW1 := hide hw1
            clear hBb hO5 hw1 hgb2
            have v2 : w1.cell? ⟨g, 2, none⟩ = some (.slice A8 k c8) := (HI3.out.var.ext HW1.out).cell 2
            have hone : OneCells [Value.string a.rel, .slice A5 m1 c5] := fun v hv => by
              simp only [List.mem_cons, List.not_mem_nil, or_false] at hv
              rcases hv with rfl | rfl <;> rfl
            have HONE := hide hone; clear hone
            go_wp2_with (at_builtin; refine wpList_append_sl rfl (.tmp 53) (.tmp 60) _ rfl 40 i0 _ 2 40 Try.underlying23 hi0 hz0 hz1 hz2 rfl (by omega) _ (HI3.out.ext.trans HW1.out) (.slice A8 k c8) k ccs rfl (own_ext P3.out HW1.out) _ 1 1 _ rfl Hsrc.out HONE.out (by unfold maxLen; omega) (by omega) ?_; intro A9 c9 w8 own8 E8 G8 L8; have v8 : w8.cell? ⟨g, 2, none⟩ = some (.slice A8 k c8) := G8.out.cell v2 hn2; have f8 : w8.frozen? ⟨g, 2, none⟩ = false := (World.frozen?_of_block (a := ⟨g, 2, none⟩) (G8.out.block g (Nat.lt_of_lt_of_le hgb HW1.out.size) hn2)).trans ((HW1.out.frozen (p := ⟨g, 2, none⟩) hgb).trans f2))
            go_roundw
            case rel =>
              refine ⟨k + 1, A9, c9, by omega, by go_num, ?_⟩
              have V8 : Blk w8 g 25 _ := (HI3.out.var.ext HW1.out).grown G8.out hn2
              have O1 := own_ext P3.out HW1.out
              have O5 := own_keep HO5.out O1 (by decide) G8.out
              have hat : Els RO 2 w8 (ccs ++ [.string a.rel, .slice A5 m1 c5]) (as'.take (k + 1)) := by
                rw [take_next as' k a Hx.out]
                refine ((P2.out.ext RO.stab HW1.out).mono (fun cs x => RO.keep O1 G8.out cs x)).append (Els.single rfl HONE.out ⟨A5, c5, ?_, ?_⟩)
                · rw [← Hml1.out]
                · rw [← Hml1.out]; exact O5
              refine ⟨?_, own_set (own_keep (own_ext HI3.out.head HW1.out) O1 (by decide) G8.out) V8 (by decide) 2 _, ⟨_, hat.mono (fun cs x => RO.set V8 2 _ cs x), own_set own8.out V8 (by decide) 2 _⟩, E8.out.setCell (p := ⟨g, 2, none⟩) HG.out _⟩
              have := V8.set_ 2 (.slice A9 (k + 1) c9)
              simpa using this
            case measure => simp [intOf]; omega
          · obtain rfl : k = i := by omega
            have v0 : wr.cell? ⟨g, 0, none⟩ = some (.string nm) := hI.out.var.cell 0
            have v1 : wr.cell? ⟨g, 1, none⟩ = some (.slice A2 n c2) := hI.out.var.cell 1
            have v2 : wr.cell? ⟨g, 2, none⟩ = some (.slice A8 k c8) := hI.out.var.cell 2
            have r := HBR.out.ext hI.out.ext
            have r0 : wr.cell? ⟨w.heap.size + 1, 0, none⟩ = some (.string ⟨#[]⟩) := r.cell 0
            have r1 : wr.cell? ⟨w.heap.size + 1, 1, none⟩ = some (.slice none 0 0) := r.cell 1
            have r2 : wr.cell? ⟨w.heap.size + 1, 2, none⟩ = some (.slice none 0 0) := r.cell 2
            have q0 := r.frozen 0
            have q1 := r.frozen 1
            have q2 := r.frozen 2
            have HR := hide r; clear r
            go_wp2_with fail
            simp only [Exit.jump]
            refine bodyPost_ret (v := .tuple #[.agg #[.string nm, .slice A2 n c2, .slice A8 k c8], .int .i64 0]) (by simp [results, Try.results40, go_sem, r0, r1, r2]) rfl ?_
            obtain ⟨cs, p2, p3⟩ := hI.out.atoms
            rw [hcore.out]
            have R1 := HR.out.set_ 0 (.string nm)
            have R2 := R1.set_ 1 (.slice A2 n c2)
            have hE := (HEW.out.trans hI.out.ext).set3 (g := w.heap.size + 1) (Nat.le_succ _) (.string nm) (.slice A2 n c2) (.slice A8 k c8)
            refine ⟨⟨A2, n, c2, A8, k, c8⟩, rfl, ⟨LAt.own HH.out.len (strC_els _ hd) (own_set (own_set (own_set hI.out.head HR.out (by decide) 0 _) R1 (by decide) 1 _) R2 (by decide) 2 _), ?_, ?_⟩, hE⟩
            · rw [List.take_of_length_le (by have := hml.out; omega)] at p2
              exact LAt.own hml.out ((((p2.mono (fun cs x => RO.set HR.out 0 _ cs x)).mono (fun cs x => RO.set R1 1 _ cs x)).mono (fun cs x => RO.set R2 2 _ cs x)).mono (fun cs x h => h.atom)) (own_set (own_set (own_set p3 HR.out (by decide) 0 _) R1 (by decide) 1 _) R2 (by decide) 2 _)
            · show n ≤ c2
              rcases hI.out.head.2 with ⟨h3, h4⟩ | ⟨g9, cap, cur, h3, _, _, h4, _⟩
              · omega
              · injection h3 with _ _ h3; omega

set_option maxHeartbeats 2000000 in
set_option maxRecDepth 100000 in
theorem core_bad (q : Qy) (L : QLoc) (w : World) (hq : QAt w L q) (hM : smallM 1048576 q) (hs : shapeQ q ≠ 0) :
    Calls Try.prog 40 #[qval q.name L] w (RetCore w (⟨.empty, [], []⟩, shapeQ q)) := by
  obtain ⟨A, n, c, B, m, d⟩ := L
  obtain ⟨nm, hd, as_⟩ := q
  have HSH := hide (fun w1 (h1 : Ext w w1) => query_shape _ _ w1 (hq.ext h1) hM)
  simp only [qval] at HSH ⊢
  have hE2 := (Ext.alloc w (.cells #[.string nm, .slice A n c, .slice B m d] 25)).alloc' (.cells #[.string ⟨#[]⟩, .slice none 0 0, .slice none 0 0] 25)
  have HE := hide hE2
  have HB0 := hide ((Blk.new w 25 #[.string nm, .slice A n c, .slice B m d]).ext (Ext.alloc _ (.cells #[.string ⟨#[]⟩, .slice none 0 0, .slice none 0 0] 25)))
  have HB1 := hide (show Blk ((w.alloc (.cells #[.string nm, .slice A n c, .slice B m d] 25)).alloc (.cells #[.string ⟨#[]⟩, .slice none 0 0, .slice none 0 0] 25)) (w.heap.size + 1) 25 #[.string ⟨#[]⟩, .slice none 0 0, .slice none 0 0] from Blk.newAt (World.size_alloc _ _))
  generalize hW2 : (w.alloc (.cells #[.string nm, .slice A n c, .slice B m d] 25)).alloc (.cells #[.string ⟨#[]⟩, .slice none 0 0, .slice none 0 0] 25) = W2 at *
  have HW2 := hide hW2
  generalize shapeQ ⟨nm, hd, as_⟩ = sq at *
  have hs1 : (sq != 0) = true := by simpa using hs
  clear hW2 hq hM hs hE2
  have a0 : W2.cell? ⟨w.heap.size, 0, none⟩ = some (.string nm) := HB0.out.cell 0
  have a1 : W2.cell? ⟨w.heap.size, 1, none⟩ = some (.slice A n c) := HB0.out.cell 1
  have a2 : W2.cell? ⟨w.heap.size, 2, none⟩ = some (.slice B m d) := HB0.out.cell 2
  go_enter Try.func40, Try.ntmps40
  go_wp2_with fail
  rw [HW2.out]
  go_step3
  go_wp2_with ((with_reducible refine (HSH.out _ HE.out).mono ?_); rintro e w1 ⟨rfl, h1⟩; have E1 := hide (HE.out.trans h1); have BR := hide (HB1.out.ext h1); clear h1 a0 a1 a2; have r0 : w1.cell? ⟨w.heap.size + 1, 0, none⟩ = some (.string ⟨#[]⟩) := BR.out.cell 0; have r1 : w1.cell? ⟨w.heap.size + 1, 1, none⟩ = some (.slice none 0 0) := BR.out.cell 1; have r2 : w1.cell? ⟨w.heap.size + 1, 2, none⟩ = some (.slice none 0 0) := BR.out.cell 2; have q0 := BR.out.frozen 0; have q1 := BR.out.frozen 1; have q2 := BR.out.frozen 2)
  try rw [Exit.noGoto_ret]
  refine bodyPost_ret (v := .tuple #[.agg #[.string ⟨#[]⟩, .slice none 0 0, .slice none 0 0], .int .i64 sq]) (by simp [results, Try.results40, go_sem, r0, r1, r2]) rfl ?_
  exact ⟨⟨none, 0, 0, none, 0, 0⟩, rfl, ⟨LAt.nil _, LAt.nil _, Nat.le_refl _⟩, E1.out.set3 (g := w.heap.size + 1) (Nat.le_succ _) _ _ _⟩

theorem core_any (q : Qy) (L : QLoc) (w : World) (hq : QAt w L q) (hM : smallM 1048576 q) :
    Calls Try.prog 40 #[qval q.name L] w (RetCore w (coreR q)) := by
  unfold coreR
  by_cases h : shapeQ q = 0
  · rw [if_neg (by simpa using h)]; exact core_ok q L w hq hM h
  · rw [if_pos h]; exact core_bad q L w hq hM h
end Go.Proofs.Ytpfjkjmimmklcaa
