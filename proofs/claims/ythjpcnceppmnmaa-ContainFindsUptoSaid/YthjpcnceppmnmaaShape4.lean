/-
  The shape of a query: the program's.
-/
import Derived.Test.YthjpcnceppmnmaaShape3
namespace Go.Proofs.Ythjpcnceppmnmaa
open Go.RowKit

theorem unsafe1 (vs : List ByteArray) (x : ByteArray) (g : Nat) (A : Option Addr) (n c : Nat) (w : World) (hc : w.cell? ⟨g, 0, none⟩ = some (.slice A n c)) (hv : LAt RS 1 w A n vs) (hn : n ≤ 1125899906842624) :
    Calls Try.prog 100 #[.string x, .pointer (some ⟨g, 0, none⟩)] w fun e w' => e = .returned (.bool (!memB vs x)) ∧ w = w' := by
  have H := hide (contains_str vs x A n c w hv hn); clear hv
  go_enter Try.func100, Try.ntmps100
  go_wp2_with fail
  refine H.out.mono ?_
  rintro e w1 ⟨rfl, rfl⟩
  go_wp2_with fail
  go_ret
  exact ⟨rfl, rfl⟩

theorem varsQ_len (q : Qy) (h : smallM 1048576 q) : (varsQ q).length ≤ 1125899906842624 := by
  rw [varsQ_flat]
  have h1 := addTs_len [] (q.atoms.flatMap (·.terms))
  have h2 : ∀ as_ : List Atm, (∀ a ∈ as_, a.terms.length ≤ 1048576) → (as_.flatMap (·.terms)).length ≤ as_.length * 1048576 := by
    intro as_
    induction as_ with
    | nil => intro _; simp
    | cons a r ih =>
      intro ha
      have := ih fun x hx => ha x (by simp [hx])
      have := ha a (by simp)
      rw [List.flatMap_cons, List.length_append, List.length_cons, Nat.add_mul]; omega
  have h3 := h2 q.atoms fun a ha => (h.atoms a ha).len
  have h4 := h.atomsL
  simp only [List.length_nil] at h1
  have : q.atoms.length * 1048576 ≤ 1048576 * 1048576 := Nat.mul_le_mul_right _ h4
  omega

set_option maxRecDepth 100000 in
theorem unsafe_var (q : Qy) (L : QLoc) (w : World) (hq : QAt w L q) (hM : smallM 1048576 q) :
    Calls Try.prog 78 #[qval q.name L] w fun e w' => e = .returned (.int .i64 (unsafeI q)) ∧ Ext w w' := by
  have HV := hide (fun w1 (h1 : Ext w w1) => query_vars q L w1 (hq.ext h1) hM)
  have hvl := hide (varsQ_len q hM)
  obtain ⟨nm, hd, as_⟩ := q
  obtain ⟨A, n, c, B, m, d⟩ := L
  simp only [qval] at HV ⊢
  have hnl : n ≤ 1048576 := by have := hM.headL; have := hq.head.len; simp only at *; omega
  have HQ := hide hq
  have HI := hide (fun w1 (h1 : Ext w w1) (g : Nat) (A2 : Option Addr) (k c2 : Nat) (hc : w1.cell? ⟨g, 0, none⟩ = some (.slice A2 k c2)) (hv : LAt RS 1 w1 A2 k (varsQ ⟨nm, hd, as_⟩)) =>
    index_funcS hd (fun h => !memB (varsQ ⟨nm, hd, as_⟩) h) 100 #[.pointer (some ⟨g, 0, none⟩)] A n c w1 (HQ.out.head.ext RS.stab h1) hnl (enters_at Try.func100 (by kernel_rfl) rfl)
      (fun x v w2 hx h2 hvx => by obtain rfl := hvx; exact sameCall (unsafe1 (varsQ ⟨nm, hd, as_⟩) x g A2 k c2 w2 (h2.cell hc) (hv.ext RS.stab h2) (by have := hvl.out; have := hv.len; omega))))
  have HBE := hide (Ext.alloc w (.cells #[.string nm, .slice A n c, .slice B m d] 25))
  have HC := hide (CellsAt.new w [.string nm, .slice A n c, .slice B m d] 25 (0, 0))
  clear hq hM
  go_enter Try.func78, Try.ntmps78
  go_wp2_with fail
  refine (HV.out _ HBE.out).mono ?_
  rintro e w1 ⟨A2, c2, rfl, hO2, h1⟩
  have E1 := hide (HBE.out.trans h1)
  have HO2 := hide hO2.lat
  have q1 := HC.out.ext h1 1 _ rfl
  generalize hk : (varsQ ⟨nm, hd, as_⟩).length = k at *
  clear hO2 h1 HC HBE HV
  have hw1 : w.heap.size < w1.heap.size := World.block_lt_of_cell? w1 _ q1
  go_wp2_with fail
  refine (HI.out _ (E1.out.trans (Ext.alloc _ _)) _ A2 k c2 (CellsAt.new w1 [.slice A2 k c2] 22 (0, 0) 0 _ rfl) (HO2.out.ext RS.stab (Ext.alloc _ _))).mono ?_
  rintro e w2 ⟨rfl, h2⟩
  have E2 := hide (E1.out.trans ((Ext.alloc _ _).trans h2)); clear h2 q1
  go_wp2_with fail
  go_ret
  exact ⟨rfl, E2.out⟩

set_option maxRecDepth 100000 in
theorem query_shape (q : Qy) (L : QLoc) (w : World) (hq : QAt w L q) (hM : smallM 1048576 q) :
    Calls Try.prog 48 #[qval q.name L] w fun e w' => e = .returned (.int .i64 (shapeQ q)) ∧ Ext w w' := by
  have HN := hide (fun w1 (h1 : Ext w w1) => bad_name q L w1 (hq.ext h1) hM)
  have HU := hide (fun w1 (h1 : Ext w w1) => unsafe_var q L w1 (hq.ext h1) hM)
  have hml : L.m ≤ 1048576 := by have := hM.atomsL; have := hq.atoms.len; omega
  have hnl : L.n ≤ 1048576 := by have := hM.headL; have := hq.head.len; omega
  have HD := hide (fun w1 (h1 : Ext w w1) => doubled_any q.head L.A L.n L.c w1 (hq.head.ext RS.stab h1) hnl hq.cap)
  have H1 := hide (fun w1 (h1 : Ext w w1) (g : Nat) (hc : CellsAt w1 g [.string q.name, .slice L.A L.n L.c, .slice L.B L.m L.d]) => shape1 q L g 73 badA w1 (hq.ext h1) hml hc
    (enters_at Try.func73 (by kernel_rfl) rfl) (fun x v w2 hx _ hv => shape2 x v w2 hv (hM.atoms x hx)))
  have H2 := hide (fun w1 (h1 : Ext w w1) (g : Nat) (hc : CellsAt w1 g [.string q.name, .slice L.A L.n L.c, .slice L.B L.m L.d]) => shape1 q L g 76 wideA w1 (hq.ext h1) hml hc
    (enters_at Try.func76 (by kernel_rfl) rfl) (fun x v w2 hx _ hv => shape3 x v w2 hv))
  have hml2 := hide hq.atoms.len
  generalize hbn : badNameQ q = bn at *
  generalize hba : q.atoms.any badA = ba at *
  generalize hwd : q.atoms.any wideA = wd at *
  have HS := hide (show shapeQ q = if bn then 72 else if ba then 21 else if q.atoms.length = 0 ∨ 6 < q.atoms.length then 90 else if wd then 91 else if dblB q.head then 92 else if unsafeB q then 93 else 0 by rw [shapeQ, hbn, hba, hwd])
  clear hbn hba hwd hq hM
  have hdd := hide (show dblB q.head = decide (0 ≤ dblI q.head 0 q.head) from rfl)
  have huu := hide (show decide (0 ≤ unsafeI q) = unsafeB q from firstI_any _ _ _)
  generalize dblI q.head 0 q.head = di at *
  generalize unsafeI q = ui at *
  generalize hsh : shapeQ q = sh at *
  obtain ⟨nm, hd, as_⟩ := q
  obtain ⟨A, n, c, B, m, d⟩ := L
  simp only [qval] at *
  have HBE := hide (Ext.alloc w (.cells #[.string nm, .slice A n c, .slice B m d] 25))
  have HC := hide (CellsAt.new w [.string nm, .slice A n c, .slice B m d] 25 (0, 0))
  clear hsh
  go_enter Try.func48, Try.ntmps48
  go_wp2_with fail
  refine (HN.out _ HBE.out).mono ?_
  rintro e w1 ⟨rfl, h1⟩
  have E1 := hide (HBE.out.trans h1)
  have HC1 := hide (HC.out.ext h1)
  clear h1 HN HC HBE
  cases bn with
  | true =>
    have HX := hide (HS.out.trans (if_pos rfl)); clear HS
    go_wp2_with fail
    go_ret
    exact ⟨ret_int HX.out.symm, E1.out⟩
  | false =>
    go_wp2_with fail
    refine (H1.out _ E1.out _ HC1.out).mono ?_
    rintro e w2 ⟨rfl, h2⟩
    have E2 := hide (E1.out.trans h2)
    have HC2 := hide (HC1.out.ext h2)
    clear h2 HC1 E1 H1
    cases ba with
    | true =>
      have HX := hide (HS.out.trans ((if_neg (by simp)).trans (if_pos rfl))); clear HS
      go_wp2_with fail
      go_ret
      exact ⟨ret_int HX.out.symm, E2.out⟩
    | false =>
      have c2 := HC2.out 2 _ rfl
      by_cases hz : m = 0
      · subst hz
        have HX := hide (HS.out.trans ((if_neg (by simp)).trans ((if_neg (by simp)).trans (if_pos (.inl hml2.out.symm))))); clear HS
        go_wp2_with fail
        go_ret
        exact ⟨ret_int HX.out.symm, E2.out⟩
      · have hz1 : ((m : Int) == 0) = false := by simp; omega
        by_cases h6 : 6 < m
        · have HX := hide (HS.out.trans ((if_neg (by simp)).trans ((if_neg (by simp)).trans (if_pos (.inr (by have := hml2.out; omega)))))); clear HS
          have Hz := hide hz; clear hz
          go_wp2_with fail
          go_ret
          exact ⟨ret_int HX.out.symm, E2.out⟩
        · have HS2 := hide (HS.out.trans ((if_neg (by simp)).trans ((if_neg (by simp)).trans (if_neg (by have := hml2.out; omega))))); clear HS
          have Hz := hide hz; clear hz
          go_wp2_with fail
          refine (H2.out _ E2.out _ HC2.out).mono ?_
          rintro e w3 ⟨rfl, h3⟩
          have E3 := hide (E2.out.trans h3)
          have HC3 := hide (HC2.out.ext h3)
          clear h3 HC2 E2 H2 c2
          cases wd with
          | true =>
            have HX := hide (HS2.out.trans (if_pos rfl)); clear HS2
            go_wp2_with fail
            go_ret
            exact ⟨ret_int HX.out.symm, E3.out⟩
          | false =>
            have c1 := HC3.out 1 _ rfl
            go_wp2_with fail
            refine (HD.out _ E3.out).mono ?_
            rintro e w4 ⟨rfl, rfl⟩
            by_cases hdi : 0 ≤ di
            · have HX := hide (HS2.out.trans ((if_neg (by simp)).trans (if_pos (by rw [hdd.out]; simpa using hdi)))); clear HS2
              go_wp2_with fail
              go_ret
              exact ⟨ret_int HX.out.symm, E3.out⟩
            · have HS3 := hide (HS2.out.trans ((if_neg (by simp)).trans (if_neg (by rw [hdd.out]; simpa using hdi)))); clear HS2
              have c0 := HC3.out 0 _ rfl
              have c2 := HC3.out 2 _ rfl
              go_wp2_with fail
              refine (HU.out _ E3.out).mono ?_
              rintro e w5 ⟨rfl, h5⟩
              have E5 := hide (E3.out.trans h5)
              clear h5 c0 c1 c2 HC3
              by_cases hui : 0 ≤ ui
              · have HX := hide (HS3.out.trans (if_pos (by rw [← huu.out]; simpa using hui))); clear HS3
                go_wp2_with fail
                go_ret
                exact ⟨ret_int HX.out.symm, E5.out⟩
              · have HX := hide (HS3.out.trans (if_neg (by rw [← huu.out]; simpa using hui))); clear HS3
                go_wp2_with fail
                go_ret
                exact ⟨ret_int HX.out.symm, E5.out⟩
end Go.Proofs.Ythjpcnceppmnmaa
