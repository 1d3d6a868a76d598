/-
  least: the least laying that begins so, by the document; Find and Equal by the document.
-/
import Derived.Test.YthjpcnceppmnmaaLays
namespace Go.Proofs.Ythjpcnceppmnmaa
open Go.RowKit

theorem step_ap_int {W w : World} {A5 : Option Addr} {c5 n : Nat} {im : List Nat} {j : Nat} {i0 : TypeInfo} {ops : Array Oper} {o : Oper} {a : Act} {K : Act → World → Prop} {Q : Exit → Act → World → Prop} {E : Prop}
    (hi : Try.prog.info? 3 = some i0) (hz : i0.zero = some (.int .i64 0)) (hsz : i0.size = 1) (hby : i0.bytes = 8)
    (hW : Ext W w) (o1 : w.ownsRow W.heap.size 3 1 (.slice A5 n c5) n (intC im))
    (hgd : o.guard = none) (s x : Operand) (ho : o.op = .call { callee := .builtin .append, args := #[s, x], argTypes := #[27, 27] }) (hs : a.eval s = .slice A5 n c5)
    (g : Nat) (hx : a.eval x = .slice (some ⟨g, 0, none⟩) 1 1) (hg : Blk w g 3 #[.int .i64 (j : Int)]) (hl : n ≤ 2000000000000)
    (h : ∀ A6 c6 w', w'.ownsRow W.heap.size 3 1 (.slice A6 (n + 1) c6) (n + 1) (intC (im ++ [j])) → Ext W w' → K (a.put o.dst (.slice A6 (n + 1) c6)) w') :
    if Region.wanted o (yielded ops a.tmps) = true then Oper.wp Try.prog o a w K Q else E := by
  refine step_append_lies w hgd s x _ ho W.heap.size 3 i0 _ 1 8 Try.underlying27 hi hz hsz hby rfl (by omega) _ n (intC im) hs o1 ⟨g, 0, none⟩ 1 1 [.int .i64 (j : Int)] hx rfl (World.news_of_block hg) (by simp [Value.oneCell']) (by omega) (by unfold maxLen; omega) (by omega) hW.size _ rfl ?_
  intro g' cap w' hown hgrow hat hlt
  refine h _ _ _ ?_ (Below.grown hW hgrow hW.size (fun k hk => (o1.lt k hk).1))
  rw [intC_snoc]; exact hown

def RetL (w0 : World) (o : Option (List Nat)) (en : Ending) (w' : World) : Prop :=
  ∃ A c, en = .returned (.tuple #[.slice A (o.getD []).length c, .bool o.isSome]) ∧ LAt RN 1 w' A (o.getD []).length (o.getD []) ∧ Ext w0 w'

set_option maxHeartbeats 8000000 in
set_option maxRecDepth 100000 in
theorem least_any (f t : Qy) (LF LT : QLoc) (hMf : smallM 1048576 f) (hMt : smallM 1048576 t) (hd : dblB f.head = false) (hh : f.head.length = t.head.length) :
    ∀ (r : Nat) (im : List Nat) (A0 : Option Addr) (n0 c0 : Nat) (w : World), QAt w LF f → QAt w LT t → LAt RN 1 w A0 n0 im → n0 + r = f.atoms.length → (∀ j ∈ im, j < t.atoms.length) →
    Calls Try.prog 39 #[qval f.name LF, qval t.name LT, .slice A0 n0 c0] w (RetL w (leastP f.atoms t.atoms (env0 f.head t.head envNone) im)) := by
  obtain ⟨i0, hi0, hz0, hz1, hz2⟩ := info_parts infoI2
  intro r
  induction r with
  | zero =>
    intro im A0 n0 c0 w hf ht hI hr hij
    have hfl : f.atoms.length ≤ 1048576 := hMf.atomsL
    have hLays := hide (fun w1 (h1 : Ext w w1) => lays_any f t LF LT im A0 n0 c0 w1 (hf.ext h1) (ht.ext h1) hMf hMt hd hh (hI.ext RN.stab h1) (by omega) hij)
    have hfa := hf.atoms.len; have hta := ht.atoms.len; have hni := hI.len
    generalize hσ : env0 f.head t.head envNone = σ0 at *
    have HL := hide (And.intro hfa (And.intro hta hni))
    have HQF := hide hf; have HQT := hide ht; have HI := hide hI; have HIJ := hide hij
    clear hf ht hI hij
    have HE := hide ((Ext.alloc w (.cells #[.string f.name, .slice LF.A LF.n LF.c, .slice LF.B LF.m LF.d] 25)).alloc' (.cells #[.string t.name, .slice LT.A LT.n LT.c, .slice LT.B LT.m LT.d] 25))
    have HB0 := hide ((Blk.new w 25 #[.string f.name, .slice LF.A LF.n LF.c, .slice LF.B LF.m LF.d]).ext (Ext.alloc _ (.cells #[.string t.name, .slice LT.A LT.n LT.c, .slice LT.B LT.m LT.d] 25)))
    have HB1 := hide (show Blk ((w.alloc (.cells #[.string f.name, .slice LF.A LF.n LF.c, .slice LF.B LF.m LF.d] 25)).alloc (.cells #[.string t.name, .slice LT.A LT.n LT.c, .slice LT.B LT.m LT.d] 25)) (w.heap.size + 1) 25 #[.string t.name, .slice LT.A LT.n LT.c, .slice LT.B LT.m LT.d] from Blk.newAt (World.size_alloc _ _))
    generalize hW2 : (w.alloc (.cells #[.string f.name, .slice LF.A LF.n LF.c, .slice LF.B LF.m LF.d] 25)).alloc (.cells #[.string t.name, .slice LT.A LT.n LT.c, .slice LT.B LT.m LT.d] 25) = W2 at *
    have hs2 : W2.heap.size = w.heap.size + 1 + 1 := by rw [← hW2]; simp
    have HS2 := hide hs2; have HW2 := hide hW2; clear hs2 hW2
    obtain ⟨A, n, c, B, m, d⟩ := LF
    obtain ⟨A', n', c', B', m', d'⟩ := LT
    simp only [qval] at *
    cases hen : envIm f.atoms t.atoms im 0 σ0 with
    | none =>
      rw [leastP_bad hen]
      rw [hen] at hLays
      clear hen hfa hta hni hh hσ hr
      go_enter Try.func39, Try.ntmps39
      go_wp2_with (rw [HW2.out]; (with_reducible refine (hLays.out _ HE.out).mono ?_); rintro e w1 ⟨rfl, h2⟩; have E1 := hide h2; clear h2)
      go_ret2
      exact ⟨none, 0, rfl, LAt.nil _, HE.out.trans E1.out⟩
    | some σ1 =>
      rw [leastP_end hen (by omega)]
      rw [hen] at hLays
      have hm : m = n0 := by omega
      subst hm
      clear hen hfa hta hni hh hσ hr
      go_enter Try.func39, Try.ntmps39
      go_wp2_with (rw [HW2.out]; (with_reducible refine (hLays.out _ HE.out).mono ?_); rintro e w1 ⟨rfl, h2⟩; have E1 := hide h2; have b2 : w1.cell? ⟨w.heap.size, 2, none⟩ = some (.slice B m d) := (HB0.out.ext h2).cell 2; clear h2)
      go_ret2
      have e1 := HL.out.2.2
      exact ⟨A0, c0, by rw [Option.getD_some, ← e1]; rfl, by rw [Option.getD_some, ← e1]; exact HI.out.ext RN.stab (HE.out.trans E1.out), HE.out.trans E1.out⟩
  | succ r ih =>
    intro im A0 n0 c0 w hf ht hI hr hij
    have hfl : f.atoms.length ≤ 1048576 := hMf.atomsL
    have hLays := hide (fun w1 (h1 : Ext w w1) => lays_any f t LF LT im A0 n0 c0 w1 (hf.ext h1) (ht.ext h1) hMf hMt hd hh (hI.ext RN.stab h1) (by omega) hij)
    have hfa := hf.atoms.len; have hta := ht.atoms.len; have hni := hI.len
    generalize hσ : env0 f.head t.head envNone = σ0 at *
    have HL := hide (And.intro hfa (And.intro hta hni))
    have HQF := hide hf; have HQT := hide ht; have HI := hide hI; have HIJ := hide hij
    clear hf ht hI hij
    have HE := hide ((Ext.alloc w (.cells #[.string f.name, .slice LF.A LF.n LF.c, .slice LF.B LF.m LF.d] 25)).alloc' (.cells #[.string t.name, .slice LT.A LT.n LT.c, .slice LT.B LT.m LT.d] 25))
    have HB0 := hide ((Blk.new w 25 #[.string f.name, .slice LF.A LF.n LF.c, .slice LF.B LF.m LF.d]).ext (Ext.alloc _ (.cells #[.string t.name, .slice LT.A LT.n LT.c, .slice LT.B LT.m LT.d] 25)))
    have HB1 := hide (show Blk ((w.alloc (.cells #[.string f.name, .slice LF.A LF.n LF.c, .slice LF.B LF.m LF.d] 25)).alloc (.cells #[.string t.name, .slice LT.A LT.n LT.c, .slice LT.B LT.m LT.d] 25)) (w.heap.size + 1) 25 #[.string t.name, .slice LT.A LT.n LT.c, .slice LT.B LT.m LT.d] from Blk.newAt (World.size_alloc _ _))
    generalize hW2 : (w.alloc (.cells #[.string f.name, .slice LF.A LF.n LF.c, .slice LF.B LF.m LF.d] 25)).alloc (.cells #[.string t.name, .slice LT.A LT.n LT.c, .slice LT.B LT.m LT.d] 25) = W2 at *
    have hs2 : W2.heap.size = w.heap.size + 1 + 1 := by rw [← hW2]; simp
    have HS2 := hide hs2; have HW2 := hide hW2; clear hs2 hW2
    obtain ⟨A, n, c, B, m, d⟩ := LF
    obtain ⟨A', n', c', B', m', d'⟩ := LT
    simp only [qval] at *
    cases hen : envIm f.atoms t.atoms im 0 σ0 with
    | none =>
      rw [leastP_bad hen]
      rw [hen] at hLays
      clear hen hfa hta hni hh hσ hr
      go_enter Try.func39, Try.ntmps39
      go_wp2_with (rw [HW2.out]; (with_reducible refine (hLays.out _ HE.out).mono ?_); rintro e w1 ⟨rfl, h2⟩; have E1 := hide h2; clear h2)
      go_ret2
      exact ⟨none, 0, rfl, LAt.nil _, HE.out.trans E1.out⟩
    | some σ1 =>
      have hlt : n0 < m := by omega
      have hne : ((n0 : Int) == (m : Int)) = false := by simp; omega
      rw [leastP_step hen (by omega)]
      rw [hen] at hLays
      have hmt : m' ≤ 1048576 := by have := hMt.atomsL; omega
      have IH := hide ih; clear ih
      have hnb : n0 ≤ 1048576 := by omega
      have Hr := hide hr
      clear hen hfa hta hni hh hσ hr hfl
      go_enter Try.func39, Try.ntmps39
      go_wp2_with (rw [HW2.out]; (with_reducible refine (hLays.out _ HE.out).mono ?_); rintro e w1 ⟨rfl, h2⟩; have E1 := hide h2; have b2 : w1.cell? ⟨w.heap.size, 2, none⟩ = some (.slice B m d) := (HB0.out.ext h2).cell 2; clear h2)
      go_loopw [6, 7, 8, 9, 10] (fun _ _ s8 _ _ w' => ∃ j : Nat, j ≤ m' ∧ s8 = .int .i64 j ∧ Hid (leastFrom f.atoms t.atoms σ0 im 0 = leastFrom f.atoms t.atoms σ0 im j) ∧ Hid (Ext W2 w')) (fun _ _ s8 _ _ _ => m' - (intOf s8).toNat)
      case atStart => exact ⟨0, by omega, rfl, rfl, E1.out⟩
      case round =>
        obtain ⟨j, hj, rfl, hlf, hX⟩ := hrel
        have b0 : wr.cell? ⟨w.heap.size, 0, none⟩ = some (.string f.name) := (HB0.out.ext hX.out).cell 0
        have b1 : wr.cell? ⟨w.heap.size, 1, none⟩ = some (.slice A n c) := (HB0.out.ext hX.out).cell 1
        have b2 : wr.cell? ⟨w.heap.size, 2, none⟩ = some (.slice B m d) := (HB0.out.ext hX.out).cell 2
        have e0 : wr.cell? ⟨w.heap.size + 1, 0, none⟩ = some (.string t.name) := (HB1.out.ext hX.out).cell 0
        have e1 : wr.cell? ⟨w.heap.size + 1, 1, none⟩ = some (.slice A' n' c') := (HB1.out.ext hX.out).cell 1
        have e2 : wr.cell? ⟨w.heap.size + 1, 2, none⟩ = some (.slice B' m' d') := (HB1.out.ext hX.out).cell 2
        by_cases h : j < m'
        · have hst := hide (hlf.out.trans (leastFrom_step (by have := HL.out; omega)))
          have HXw := hide (HE.out.trans hX.out)
          have HINT := hide (fun w1 (h1 : Ext wr w1) => ints_n im A0 n0 c0 w1 (HI.out.ext RN.stab (HXw.out.trans h1)) (by omega))
          have HREC := hide (fun A6 c6 w1 (h1 : Ext wr w1) (hl : LAt RN 1 w1 A6 (n0 + 1) (im ++ [j])) => IH.out (im ++ [j]) A6 (n0 + 1) c6 w1 (HQF.out.ext (HXw.out.trans h1)) (HQT.out.ext (HXw.out.trans h1)) hl (by have := Hr.out; omega) (by
            intro k hk
            rcases List.mem_append.1 hk with hk | hk
            · exact HIJ.out k hk
            · obtain rfl := List.mem_singleton.1 hk
              have := HL.out; omega))
          have hil := hide (show n0 = im.length by have := HL.out; omega)
          generalize leastP f.atoms t.atoms σ0 (im ++ [j]) = o at *
          go_wp2_with fail
          have S0 : Hid (wr.cell? ⟨w.heap.size, 0, none⟩ = some (.string f.name) ∧ wr.cell? ⟨w.heap.size, 1, none⟩ = some (.slice A n c) ∧ wr.cell? ⟨w.heap.size, 2, none⟩ = some (.slice B m d) ∧ wr.cell? ⟨w.heap.size + 1, 0, none⟩ = some (.string t.name) ∧ wr.cell? ⟨w.heap.size + 1, 1, none⟩ = some (.slice A' n' c') ∧ wr.cell? ⟨w.heap.size + 1, 2, none⟩ = some (.slice B' m' d')) := ⟨b0, b1, b2, e0, e1, e2⟩
          go_region_held3 (fun w' => w'.cell? ⟨w.heap.size, 0, none⟩ = some (.string f.name) ∧ w'.cell? ⟨w.heap.size, 1, none⟩ = some (.slice A n c) ∧ w'.cell? ⟨w.heap.size, 2, none⟩ = some (.slice B m d) ∧ w'.cell? ⟨w.heap.size + 1, 0, none⟩ = some (.string t.name) ∧ w'.cell? ⟨w.heap.size + 1, 1, none⟩ = some (.slice A' n' c') ∧ w'.cell? ⟨w.heap.size + 1, 2, none⟩ = some (.slice B' m' d'))
            (first
              | (exact ⟨h9.cell S0.out.1, h9.cell S0.out.2.1, h9.cell S0.out.2.2.1, h9.cell S0.out.2.2.2.1, h9.cell S0.out.2.2.2.2.1, h9.cell S0.out.2.2.2.2.2⟩)
              | (exact ⟨h7.cell S0.out.1, h7.cell S0.out.2.1, h7.cell S0.out.2.2.1, h7.cell S0.out.2.2.2.1, h7.cell S0.out.2.2.2.2.1, h7.cell S0.out.2.2.2.2.2⟩)
              | (exact ⟨h5.cell S0.out.1, h5.cell S0.out.2.1, h5.cell S0.out.2.2.1, h5.cell S0.out.2.2.2.1, h5.cell S0.out.2.2.2.2.1, h5.cell S0.out.2.2.2.2.2⟩)
              | go_keep)
            (first
              | (go_at_call 66; refine (HINT.out _ (Ext.drew wr)).mono ?_; rintro e w5 ⟨A5, c5, rfl, o5, x5⟩; have h5 := (Ext.drew wr).trans x5; have p5 := own_base o5 (Ext.drew wr).size)
              | (go_at_call 66; refine (HINT.out _ (Ext.drew' (Ext.alloc wr _))).mono ?_; rintro e w5 ⟨A5, c5, rfl, o5, x5⟩; have h5 := (Ext.drew' (Ext.alloc wr _)).trans x5; have p5 := own_base o5 (Ext.drew' (Ext.alloc wr _)).size)
              | ((refine step_ap_int hi0 hz0 hz1 hz2 (h5.alloc' _) (p5.alloc _) (by rfl) _ _ (by rfl) (by rfl) w5.heap.size (by rfl) (Blk.new w5 _ _) (by omega) ?_); intro A6 c6 w6 o7 h7)
              | ((refine step_ap_int hi0 hz0 hz1 hz2 h5 p5 (by rfl) _ _ (by rfl) (by rfl) wr.heap.size (by rfl) (((Blk.new wr _ _).ext (Ext.drew _)).ext x5) (by omega) ?_); intro A6 c6 w6 o7 h7)
              | (go_at_call 39; refine (HREC.out A6 c6 w6 h7 (own_num (by simp; exact hil.out) o7)).mono ?_; rintro e w8 ⟨A8, c8, rfl, l8, x8⟩; have h9 := h7.trans x8))
          all_goals
            have X8 := hide h9
            have L8 := hide l8
            clear h9 l8 x8 o7 h7 p5 h5 x5 o5 b0 b1 b2 e0 e1 e2 HINT HREC
            cases o with
            | some l =>
              go_wp2_with fail
              go_ret2
              rw [hst.out]
              exact ⟨A8, c8, rfl, L8.out, HXw.out.trans X8.out⟩
            | none =>
              go_wp2_with fail
              go_roundw
              case rel => exact ⟨j + 1, by omega, by go_num, by rw [Hid, hst.out], hX.out.trans X8.out⟩
              case measure => simp [intOf]; omega
        · have hdn := hide (hlf.out.trans (leastFrom_end (by have := HL.out; omega)))
          go_wp2_with fail
          go_ret2
          rw [hdn.out]
          exact ⟨none, 0, rfl, LAt.nil _, HE.out.trans hX.out⟩
end Go.Proofs.Ythjpcnceppmnmaa
