/-
  node: a meet's turns.
  node: a meet's turns, off; what leans on a row.
  node: On, Off, Support, Stored, and what is asked of the live rows, of the whole node.
-/
import Derived.Test.YtahdiiaadjdmcaaNgE
namespace Go.Proofs.Ytahdiiaadjdmcaa
open Go.RowKit
theorem cnt_eqv {w : World} {B : Nat → Prop} {K : NK} {b N : Nat} {s s' : NSt} (h1 : s'.ons = s.ons) (h3 : s'.cnt = s.cnt) (h : CntAt w B K b N s) : CntAt w B K b N s' := by
  obtain ⟨g1, n, σ, g2, g3, g4⟩ := h
  exact ⟨g1, n, σ, g2, g3, fun own ho => by rw [h1, h3]; exact g4 own ho⟩
theorem NdR.eqv {w : World} {lab : Lab} {K : NK} {v : NdV} {a a' : NAbs} {N : Nat} (h : NdR w lab K v a N) (h1 : a'.now.ons = a.now.ons) (h2 : a'.now.sides = a.now.sides) (h3 : a'.now.cnt = a.now.cnt) (h4 : a'.old = a.old) : NdR w lab K v a' N := by
  have e2 : S2 K a' = S2 K a := by unfold S2; rw [h1, h4]
  have e3 : S3 K a' = S3 K a := by unfold S3; rw [h2, h4]
  refine ⟨h.lt, fun i => ?_⟩
  have hp := h.part i
  match i, hp with
  | 0, hp => exact hp
  | 1, _ => exact trivial
  | 2, hp => exact fun hk => by rw [e2]; exact hp hk
  | 3, hp => exact fun hk => by rw [e3]; exact hp hk
  | 4, hp => exact fun hk => cnt_eqv h1 h3 (hp hk)
  | 5, hp => exact fun hk => by rw [h4]; exact hp hk
  | _ + 6, _ => exact trivial
section
variable {w : World} {lab : Lab} {K : NK} {v : NdV} {a : NAbs} {N : Nat}
set_option maxRecDepth 100000 in
set_option maxHeartbeats 2000000 in
theorem meet_on (h : NdQ w lab K v a (S1 K a) N) (hK : NKOk K) (hO : NOk K a.now) (hk : K.kind = 3) (hN : N + 1048576 ≤ 8796093022208) {from_ : Int} (hfr : from_ = 1 ∨ from_ = 2) {r : List V} {A : Option Addr} {n : Nat} (c : Nat) (ha : ArgR w A n r) (hf : fitsR (if from_ = 2 then K.side.length else K.inn) r = true) (hA : Aside lab.dom A) (hB : ∀ x, A = some x → x.block < w.heap.size) :
    Calls Try.prog 70 #[.pointer (some ⟨v.k, 0, none⟩), .int .i64 from_, .slice A n c] w (TurnAt w lab K v a (N + 1048576) (if from_ = 2 then sideN K a.now true r else sourceN K a.now true r)) := by
  have hE1 := Ext.alloc w (.cells #[.slice none 0 0, .slice none 0 0] 53)
  have hq := h.ext hE1
  have RB := hide (Blk.new w 53 #[.slice none 0 0, .slice none 0 0])
  obtain ⟨k0, k1, k2⟩ := hq.r.meet hk
  have HQ := hide hq; have HE := hide hE1; have HRB := hide (show ¬ lab.dom w.heap.size from fun ⟨i, hi⟩ => by have := h.r.lt _ _ hi; omega)
  have HLT := hide (fun (x : Addr) (hx : A = some x) => Nat.lt_of_lt_of_le (hB x hx) hE1.size)
  have HO := hide hO; have HA := hide (ha.ext hE1); have HAS := hide hA; have HKK := hide hK
  clear h ha hq hE1 hA hO hK hB
  obtain ⟨rb, hrb⟩ : ∃ rb, w.heap.size = rb := ⟨_, rfl⟩
  have HR := hide (Nat.le_of_eq hrb)
  rw [hrb] at RB HRB
  have hwd : K.width = K.inn := by unfold NK.width; rw [if_neg (by omega)]
  have HWD := hide hwd
  clear hwd
  rcases hfr with rfl | rfl
  · rw [if_neg (by decide)] at hf ⊢
    obtain ⟨t, ht⟩ : ∃ t, sourceN K a.now true r = t := ⟨_, rfl⟩
    rw [ht]
    have HT := hide ht
    have hS : (S2 K a).rows = a.now.ons ∧ (S2 K a).most = K.most ∧ fitsR (S2 K a).width r = true := ⟨rfl, rfl, hf⟩
    have HF := hide hf
    have HS := hide (put_st (HQ.out.r.part 2 hk) (by omega) c HA.out (fun x hx hb => HAS.out x hx ⟨2, hb⟩))
    clear ht hf
    go_enter Try.func70, Try.ntmps70
    go_upto_region 1 with fail
    generalize hw1 : w.alloc (.cells #[.slice none 0 0, .slice none 0 0] 53) = w1 at *
    clear hrb hw1
    cases hin : inB a.now.ons r with
    | true =>
      have hput : putS (S2 K a) r = (S2 K a, false, 0) := by unfold putS; rw [hS.2.2, hS.1, hin]; rfl
      rw [hput] at HS
      have ht : t = (a.now, [], [], 191) := by rw [← HT.out]; unfold sourceN; rw [hin]; rfl
      have HT := hide ht
      clear hput hin hS ht
      go_upto_region 8 with ((with_reducible refine HS.out.mono ?_); rintro e w2 ⟨rfl, h2⟩; have T2 := hide (HQ.out.source (a' := a) hk (Nat.le_add_right N 262145) h2 rfl); clear h2)
      obtain ⟨lab2, q2, st2⟩ := T2.out
      have Q2 := hide (q2.more (by omega : N + 262145 ≤ N + 1048576)); have ST2 := hide st2
      have B2 := hide (st2.2.blk RB.out HRB.out)
      clear q2 st2 T2 k0 k1 k2
      have f0 := B2.out.frozen 0
      have f1 := B2.out.frozen 1
      have c0 : _ = some (Value.slice none 0 0) := B2.out.cell 0
      have c1 : _ = some (Value.slice none 0 0) := B2.out.cell 1
      go_wp2_with fail
      have R := (two_cells B2.out (.slice none 0 0) (.slice none 0 0))
      have r0 := R.cell 0
      have r1 := R.cell 1
      refine bodyPost_ret (v := .tuple #[.agg #[.slice none 0 0, .slice none 0 0], .int .i64 191]) (by simp [results, Try.results70, go_sem, r0, r1]) rfl ?_
      exact turn_nil HT.out HE.out ST2.out Q2.out HR.out HRB.out RB.out.lt
    | false =>
      by_cases hm : a.now.ons.length < K.most
      · have hput : putS (S2 K a) r = (S2 K { a with now := { a.now with ons := a.now.ons ++ [r] } }, true, 0) := by unfold putS; rw [hS.2.2, hS.1, hin, hS.2.1, if_pos hm]; rfl
        rw [hput] at HS
        have HNO := hide (inB_false.1 hin); have HM := hide hm
        clear hput hS
        go_upto_region 10 with ((with_reducible refine HS.out.mono ?_); rintro e w2 ⟨rfl, h2⟩; have T2 := hide (HQ.out.source (a' := { a with now := { a.now with ons := a.now.ons ++ [r] } }) hk (Nat.le_add_right N 262145) h2 rfl); clear h2)
        obtain ⟨lab2, q2, st2⟩ := T2.out
        have Q2 := hide q2; have ST2 := hide st2
        have B2 := hide (st2.2.blk RB.out HRB.out)
        have HA2 := hide (HA.out.stays (B := lab.dom) HAS.out st2.2)
        clear q2 st2 T2 k0 k1 k2
        obtain ⟨k0, k1, k2⟩ := Q2.out.r.meet hk
        have HKC := hide (fun (w5 : World) (h5 : Ext w2 w5) => meet_key (Q2.out.r.ext h5) HKK.out hk c (HA2.out.ext h5) HF.out)
        have HST := hide (fun (w5 : World) (lab5 : Lab) (a5 : NAbs) (S5 : SAbs) (M : Nat) (q : NdQ w5 lab5 K v a5 S5 M) => (q.r.meet hk).2.2)
        have HK2 := hide (show ∀ w', Ext w2 w' → w'.cell? ⟨v.k, 2, none⟩ = some (.pointer (some ⟨v.x3, 0, none⟩)) from fun w' h' => h'.cell k2)
        clear k0 k1 k2 hin hm
        refine wp_region_line [true, true, true, true, true, true, false, false, true] (fun w' => w'.cell? ⟨v.k, 2, none⟩ = some (.pointer (some ⟨v.x3, 0, none⟩))) (by kernel_rfl) (by kernel_rfl) (fun _ _ _ _ _ h => h) ?_ ?_
        · exact HK2.out
        intro wq hwq
        unfold wpL
        apply Exists.intro
        refine ⟨fun w9 h9 => ?_, fun K hK => ?_⟩
        · go_simp; first | done | rfl
        go_simp; refine hK _ ?_; clear hK K
        unfold wpL
        apply Exists.intro
        refine ⟨fun w9 h9 => ?_, fun K hK => ?_⟩
        · go_simp; first | done | rfl
        go_simp; refine hK _ ?_; clear hK K
        unfold wpL
        apply Exists.intro
        refine ⟨fun w9 h9 => ?_, fun K hK => ?_⟩
        · go_simp; first | done | rfl
        go_simp; refine hK _ ?_; clear hK K
        unfold wpL
        apply Exists.intro
        refine ⟨fun w9 h9 => ?_, fun K hK => ?_⟩
        · go_simp; first | done | rfl
        go_simp; refine hK _ ?_; clear hK K
        unfold wpL
        apply Exists.intro
        refine ⟨fun w9 h9 => ?_, fun K hK => ?_⟩
        · go_simp; first | done | rfl
        go_simp; refine hK _ ?_; clear hK K
        unfold wpL
        apply Exists.intro
        refine ⟨fun w9 h9 => ?_, fun K hK => ?_⟩
        · go_simp; first | done | rfl
        go_simp; refine hK _ ?_; clear hK K
        unfold wpL
        go_wp2_with ((with_reducible refine (HKC.out wq hwq).mono ?_); rintro e w3 ⟨A3, c3, rfl, h3, x3⟩; have X3 := hide (hwq.trans x3); have HA3 := hide h3; clear h3 x3)
        simp only [exL]
        refine ⟨HK2.out w3 X3.out, ?_⟩
        have HHas := hide (has_st ((Q2.out.r.ext X3.out).part 3 hk) (by omega) c3 HA3.out)
        unfold wpL
        go_wp2_with ((with_reducible refine HHas.out.mono ?_); rintro e w2 ⟨rfl, h4⟩; have T4 := hide ((Q2.out.ext X3.out).side (a' := { a with now := { a.now with ons := a.now.ons ++ [r] } }) hk (Nat.le_succ _) h4 rfl); clear h4)
        simp only [exL]
        obtain ⟨lab4, q4, st4⟩ := T4.out
        refine ⟨HST.out _ _ _ _ _ q4, ?_⟩
        have Q4 := hide q4
        have B4 := hide (st4.2.blk (B2.out.ext X3.out) (nd_far ST2.out HRB.out RB.out.lt))
        have ST4 := hide (step_on (step_pre ST2.out X3.out) st4)
        have HA4 := hide (HA.out.stays (B := lab.dom) HAS.out ST4.out.2)
        clear q4 st4 T4 hwq HKC HHas HK2 Q2 ST2 B2 HA2
        unfold wpL
        apply Exists.intro
        refine ⟨fun w9 h9 => ?_, fun K hK => ?_⟩
        · go_simp; first | done | rfl
        go_simp; refine hK _ ?_; clear hK K
        unfold wpL
        cases hsd : inB a.now.sides (keyR K.side r) with
        | false =>
          have ht : t = ({ a.now with ons := a.now.ons ++ [r] }, [], [r], 0) := by rw [← HT.out]; unfold sourceN; rw [inB_false.2 HNO.out, if_pos HM.out, hsd]; rfl
          have HT := hide ht
          rw [show inB (S3 K { a with now := { a.now with ons := a.now.ons ++ [r] } }).rows (keyR K.side r) = false from hsd]
          have Q2 := hide (show NdQ w2 lab4 K v { a with now := { a.now with ons := a.now.ons ++ [r] } } (S1 K { a with now := { a.now with ons := a.now.ons ++ [r] } }) (N + 1048576) from Q4.out.more (by omega))
          have ST2 := ST4; have B2 := B4; have HA2 := HA4
          clear ht hsd Q4 ST4 B4 HA4
          have HO := hide (fun (w5 : World) (h5 : Ext w2 w5) => one_any c (HA2.out.ext h5))
          go_wp2_with ((with_reducible refine (HO.out w2 (Ext.refl _)).mono ?_); rintro e w4 ⟨A2, rfl, h1, x1⟩; have O2 := hide h1; have X2 := hide x1; have B4 := hide (B2.out.ext X2.out); have f0 := B4.out.frozen 0; have f1 := B4.out.frozen 1; have c0 : _ = some (Value.slice none 0 0) := B4.out.cell 0; have c1 : _ = some (Value.slice none 0 0) := B4.out.cell 1; clear h1 x1)
          have R := (two_cells B4.out (.slice none 0 0) (.slice A2 1 1))
          have r0 := R.cell 0
          have r1 := R.cell 1
          refine bodyPost_ret (v := .tuple #[.agg #[.slice none 0 0, .slice A2 1 1], .int .i64 0]) (by simp [results, Try.results70, go_sem, r0, r1]) rfl ?_
          exact turn_one HT.out HE.out ST2.out Q2.out HR.out HRB.out RB.out.lt O2.out X2.out
        | true =>
          have ht : t = ({ a.now with ons := a.now.ons ++ [r], live := a.now.live ++ [r] }, [r], [r], 0) := by rw [← HT.out]; unfold sourceN; rw [inB_false.2 HNO.out, if_pos HM.out, hsd]; rfl
          have HT := hide ht
          rw [show inB (S3 K { a with now := { a.now with ons := a.now.ons ++ [r] } }).rows (keyR K.side r) = true from hsd]
          have hput : putS (S1 K a) r = ({ S1 K a with rows := a.now.live ++ [r] }, true, 0) := by
            have hl : a.now.live.length ≤ a.now.ons.length := nodup_sub HO.out.lnd fun x hx => ((HO.out.meet hk x).1 hx).1
            have hm := HM.out
            unfold putS
            rw [show fitsR (S1 K a).width r = true by show fitsR K.width r = true; rw [HWD.out]; exact HF.out, show (S1 K a).rows = a.now.live from rfl, inB_false.2 (fun hx => HNO.out ((HO.out.meet hk r).1 hx).1), show (S1 K a).most = K.most from rfl, if_pos (show a.now.live.length < K.most by omega)]; rfl
          have HS1 := put_st Q4.out.s (by omega) c HA4.out (fun x hx hb => by
            rcases ST4.out.1 _ ⟨1, hb⟩ with h | h
            · exact HAS.out x hx h
            · have := HLT.out x hx; omega)
          rw [hput] at HS1
          have HS1 := hide HS1
          have a6 := Q4.out.r.rows6
          have k0 := (Q4.out.r.meet hk).1
          clear ht hsd hput
          go_upto_region 13 with ((with_reducible refine HS1.out.mono ?_); rintro e w2 ⟨rfl, h2⟩; have T2 := hide (Q4.out.live (Nat.le_add_right _ 262145) h2); clear h2)
          obtain ⟨lab2, q2, st2⟩ := T2.out
          have Q2 := hide (show NdQ w2 lab2 K v { a with now := { a.now with ons := a.now.ons ++ [r], live := a.now.live ++ [r] } } (S1 K { a with now := { a.now with ons := a.now.ons ++ [r], live := a.now.live ++ [r] } }) (N + 1048576) from ⟨(q2.r.more (by omega : N + 262145 + 1 + 262145 ≤ N + 1048576)).eqv rfl rfl rfl rfl, q2.s.more (by omega)⟩)
          have ST2 := hide (step_on ST4.out st2)
          have B2 := hide (st2.2.blk B4.out (nd_far ST4.out HRB.out RB.out.lt))
          have HA2 := hide (HA.out.stays (B := lab.dom) HAS.out ST2.out.2)
          clear q2 st2 T2 a6 k0 Q4 ST4 B4 HA4
          have HO := hide (fun (w5 : World) (h5 : Ext w2 w5) => one_any c (HA2.out.ext h5))
          go_wp2_with (first
            | ((with_reducible refine (HO.out w2 (Ext.refl _)).mono ?_); rintro e w3 ⟨A1, rfl, h1, x1⟩; have O1 := hide h1; have X1 := hide x1; clear h1 x1)
            | ((with_reducible refine (HO.out w3 X1.out).mono ?_); rintro e w4 ⟨A2, rfl, h1, x1⟩; have O2 := hide h1; have X2 := hide x1; have B4 := hide (B2.out.ext (X1.out.trans X2.out)); have f0 := B4.out.frozen 0; have f1 := B4.out.frozen 1; have c0 : _ = some (Value.slice none 0 0) := B4.out.cell 0; have c1 : _ = some (Value.slice none 0 0) := B4.out.cell 1; clear h1 x1))
          have R := (two_cells B4.out (.slice A1 1 1) (.slice A2 1 1))
          have r0 := R.cell 0
          have r1 := R.cell 1
          refine bodyPost_ret (v := .tuple #[.agg #[.slice A1 1 1, .slice A2 1 1], .int .i64 0]) (by simp [results, Try.results70, go_sem, r0, r1]) rfl ?_
          exact turn_two HT.out HE.out ST2.out Q2.out HR.out HRB.out RB.out.lt O1.out X1.out O2.out X2.out
      · have hput : putS (S2 K a) r = (S2 K a, false, 31) := by unfold putS; rw [hS.2.2, hS.1, hin, hS.2.1, if_neg hm]; rfl
        rw [hput] at HS
        have ht : t = (a.now, [], [], 31) := by rw [← HT.out]; unfold sourceN; rw [hin, if_neg hm]; rfl
        have HT := hide ht
        clear hput hin hS ht hm
        go_upto_region 6 with ((with_reducible refine HS.out.mono ?_); rintro e w2 ⟨rfl, h2⟩; have T2 := hide (HQ.out.source (a' := a) hk (Nat.le_add_right N 262145) h2 rfl); clear h2)
        obtain ⟨lab2, q2, st2⟩ := T2.out
        have Q2 := hide (q2.more (by omega : N + 262145 ≤ N + 1048576)); have ST2 := hide st2
        have B2 := hide (st2.2.blk RB.out HRB.out)
        clear q2 st2 T2 k0 k1 k2
        have f0 := B2.out.frozen 0
        have f1 := B2.out.frozen 1
        have c0 : _ = some (Value.slice none 0 0) := B2.out.cell 0
        have c1 : _ = some (Value.slice none 0 0) := B2.out.cell 1
        go_wp2_with fail
        have R := (two_cells B2.out (.slice none 0 0) (.slice none 0 0))
        have r0 := R.cell 0
        have r1 := R.cell 1
        refine bodyPost_ret (v := .tuple #[.agg #[.slice none 0 0, .slice none 0 0], .int .i64 31]) (by simp [results, Try.results70, go_sem, r0, r1]) rfl ?_
        exact turn_nil HT.out HE.out ST2.out Q2.out HR.out HRB.out RB.out.lt
  · rw [if_pos rfl] at hf ⊢
    obtain ⟨t, ht⟩ : ∃ t, sideN K a.now true r = t := ⟨_, rfl⟩
    rw [ht]
    have HT := hide ht
    have hS : (S3 K a).rows = a.now.sides ∧ (S3 K a).most = K.most ∧ fitsR (S3 K a).width r = true := ⟨rfl, rfl, hf⟩
    have HS := hide (put_st (HQ.out.r.part 3 hk) (by omega) c HA.out (fun x hx hb => HAS.out x hx ⟨3, hb⟩))
    clear ht hf
    go_enter Try.func70, Try.ntmps70
    go_upto_region 1 with fail
    generalize hw1 : w.alloc (.cells #[.slice none 0 0, .slice none 0 0] 53) = w1 at *
    clear hrb hw1
    cases hin : inB a.now.sides r with
    | true =>
      have hput : putS (S3 K a) r = (S3 K a, false, 0) := by unfold putS; rw [hS.2.2, hS.1, hin]; rfl
      rw [hput] at HS
      have ht : t = (a.now, [], [], 191) := by rw [← HT.out]; unfold sideN; rw [hin]; rfl
      have HT := hide ht
      clear hput hin hS ht
      go_upto_region 8 with ((with_reducible refine HS.out.mono ?_); rintro e w2 ⟨rfl, h2⟩; have T2 := hide (HQ.out.side (a' := a) hk (Nat.le_add_right N 262145) h2 rfl); clear h2)
      obtain ⟨lab2, q2, st2⟩ := T2.out
      have Q2 := hide (q2.more (by omega : N + 262145 ≤ N + 1048576)); have ST2 := hide st2
      have B2 := hide (st2.2.blk RB.out HRB.out)
      clear q2 st2 T2 k0 k1 k2
      have f0 := B2.out.frozen 0
      have f1 := B2.out.frozen 1
      have c0 : _ = some (Value.slice none 0 0) := B2.out.cell 0
      have c1 : _ = some (Value.slice none 0 0) := B2.out.cell 1
      go_wp2_with fail
      have R := (two_cells B2.out (.slice none 0 0) (.slice none 0 0))
      have r0 := R.cell 0
      have r1 := R.cell 1
      refine bodyPost_ret (v := .tuple #[.agg #[.slice none 0 0, .slice none 0 0], .int .i64 191]) (by simp [results, Try.results70, go_sem, r0, r1]) rfl ?_
      exact turn_nil HT.out HE.out ST2.out Q2.out HR.out HRB.out RB.out.lt
    | false =>
      by_cases hm : a.now.sides.length < K.most
      · have hput : putS (S3 K a) r = (S3 K { a with now := { a.now with sides := a.now.sides ++ [r] } }, true, 0) := by unfold putS; rw [hS.2.2, hS.1, hin, hS.2.1, if_pos hm]; rfl
        rw [hput] at HS
        have HNO := hide (inB_false.1 hin)
        have ht : t = ({ a.now with sides := a.now.sides ++ [r], live := a.now.live ++ ofSide K a.now r }, ofSide K a.now r, ofSide K a.now r, 0) := by rw [← HT.out]; unfold sideN; rw [hin, if_pos hm]; rfl
        have HT := hide ht
        have hmf : ∀ (fn : Fn) (first cap : Array Value) (w : World), (Instr.makeFunc fn first cap).run Try.prog w = .ok (.func fn first cap) w := fun _ _ _ _ => rfl
        clear hput hS ht hin hm
        go_upto_region 14 with ((with_reducible refine HS.out.mono ?_); rintro e w2 ⟨rfl, h2⟩; have T2 := hide (HQ.out.side (a' := { a with now := { a.now with sides := a.now.sides ++ [r] } }) hk (Nat.le_add_right N 262145) h2 rfl); clear h2)
        obtain ⟨lab2, q2, st2⟩ := T2.out
        have Q2 := hide q2; have ST2 := hide st2
        have B2 := hide (st2.2.blk RB.out HRB.out)
        have HA2 := hide (HA.out.stays (B := lab.dom) HAS.out st2.2)
        have HRB2 := hide (nd_far st2 HRB.out RB.out.lt)
        clear q2 st2 T2 k0 k1 k2
        have hLL := ofSide_len HKK.out HO.out r
        have HTU := hide (meet_turn_put (a := { a with now := { a.now with sides := a.now.sides ++ [r] } }) (G := fun i w B => StP w B v.x1 (SPi K a (ofSide K a.now r) i) (N + 524289 + i)) (key := r) (L := ofSide K a.now r) rfl Q2.out.r hk (by omega) hLL (ofSide_fit HO.out hk r)
          (by
            have h1 := Q2.out.s.stp
            have e : SPi K a (ofSide K a.now r) 0 = S1 K a := by unfold SPi; rw [List.take_zero, List.append_nil]; rfl
            rw [e]; exact h1)
          (fun i => ⟨fun w w' B C h hc hd => StP.chg h hc hd, fun w B C h hc => StP.mono h hc⟩)
          (fun i x wr B Ai ni ci hx hg ha hb => by
            have hi := (List.getElem?_eq_some_iff.1 hx).1
            have h1 := put_p hg (by omega) ci ha hb
            rw [spi_step HO.out hk HNO.out hx] at h1
            refine h1.mono ?_
            rintro e w' ⟨rfl, h2⟩
            exact ⟨⟨_, rfl⟩, h2⟩)
          HKK.out.inn c HA2.out)
        have a6 := Q2.out.r.rows6
        have k0 := (Q2.out.r.meet hk).1
        go_wp2_with ((with_reducible refine HTU.out.mono ?_); rintro e w3 ⟨y, lab3, rfl, r3, g3, st3, A4, c4, A5, c5, P4, P5, rfl, hm1, hm2, hm3, hm4⟩; have M3 := hide (show MovedAt w2.heap.size lab3.dom w3 (ofSide K a.now r) (ofSide K a.now r) _ from ⟨A4, c4, A5, c5, P4, P5, rfl, hm1, hm2, hm3, hm4⟩); have R3 := hide r3; have G3 := hide g3; have ST3 := hide st3; have B3 := hide (st3.2.blk B2.out HRB2.out); have f0 := B3.out.frozen 0; have f1 := B3.out.frozen 1; have c0 : _ = some (Value.slice none 0 0) := B3.out.cell 0; have c1 : _ = some (Value.slice none 0 0) := B3.out.cell 1; clear r3 g3 st3 hm1 hm2 hm3 hm4)
        have R := (two_cells B3.out (.slice A4 (ofSide K a.now r).length c4) (.slice A5 (ofSide K a.now r).length c5))
        have r0 := R.cell 0
        have r1 := R.cell 1
        refine bodyPost_ret (v := .tuple #[.agg #[.slice A4 (ofSide K a.now r).length c4, .slice A5 (ofSide K a.now r).length c5], .int .i64 0]) (by simp [results, Try.results70, go_sem, r0, r1]) rfl ?_
        have hq : NdQ w3 lab3 K v { a with now := { a.now with sides := a.now.sides ++ [r], live := a.now.live ++ ofSide K a.now r } } (S1 K { a with now := { a.now with sides := a.now.sides ++ [r], live := a.now.live ++ ofSide K a.now r } }) (N + 1048576) := by
          refine ⟨(R3.out.more (by omega : N + 262145 + 1 ≤ N + 1048576)).eqv rfl rfl rfl rfl, ?_⟩
          have h1 := (G3.out.sti).more (show N + 524289 + (ofSide K a.now r).length ≤ N + 1048576 by omega)
          have e : SPi K a (ofSide K a.now r) (ofSide K a.now r).length = S1 K { a with now := { a.now with sides := a.now.sides ++ [r], live := a.now.live ++ ofSide K a.now r } } := by unfold SPi; rw [List.take_length]; rfl
          rw [e] at h1
          exact h1
        have hlt := RB.out.lt
        have hs1 := HE.out.size
        have hs2 := ST2.out.2.size
        exact turn_gen HT.out HE.out (step_on ST2.out ST3.out) hq HR.out HRB.out hlt (M3.out.weak (by omega) (by omega))
      · have hput : putS (S3 K a) r = (S3 K a, false, 31) := by unfold putS; rw [hS.2.2, hS.1, hin, hS.2.1, if_neg hm]; rfl
        rw [hput] at HS
        have ht : t = (a.now, [], [], 31) := by rw [← HT.out]; unfold sideN; rw [hin, if_neg hm]; rfl
        have HT := hide ht
        clear hput hin hS ht hm
        go_upto_region 6 with ((with_reducible refine HS.out.mono ?_); rintro e w2 ⟨rfl, h2⟩; have T2 := hide (HQ.out.side (a' := a) hk (Nat.le_add_right N 262145) h2 rfl); clear h2)
        obtain ⟨lab2, q2, st2⟩ := T2.out
        have Q2 := hide (q2.more (by omega : N + 262145 ≤ N + 1048576)); have ST2 := hide st2
        have B2 := hide (st2.2.blk RB.out HRB.out)
        clear q2 st2 T2 k0 k1 k2
        have f0 := B2.out.frozen 0
        have f1 := B2.out.frozen 1
        have c0 : _ = some (Value.slice none 0 0) := B2.out.cell 0
        have c1 : _ = some (Value.slice none 0 0) := B2.out.cell 1
        go_wp2_with fail
        have R := (two_cells B2.out (.slice none 0 0) (.slice none 0 0))
        have r0 := R.cell 0
        have r1 := R.cell 1
        refine bodyPost_ret (v := .tuple #[.agg #[.slice none 0 0, .slice none 0 0], .int .i64 31]) (by simp [results, Try.results70, go_sem, r0, r1]) rfl ?_
        exact turn_nil HT.out HE.out ST2.out Q2.out HR.out HRB.out RB.out.lt
end
end Go.Proofs.Ytahdiiaadjdmcaa

namespace Go.Proofs.Ytahdiiaadjdmcaa
open Go.RowKit
section
variable {w : World} {lab : Lab} {K : NK} {v : NdV} {a : NAbs} {N : Nat}
end
end Go.Proofs.Ytahdiiaadjdmcaa

namespace Go.Proofs.Ytahdiiaadjdmcaa
open Go.RowKit

theorem TurnAt.more {w w' : World} {lab : Lab} {K : NK} {v : NdV} {a : NAbs} {N M : Nat} {t : Turn} {e : Ending} (h : TurnAt w lab K v a N t e w') (hM : N ≤ M) : TurnAt w lab K v a M t e w' := by
  obtain ⟨y, lab', h1, h2, h3⟩ := h
  exact ⟨y, lab', h1, h2.more hM, h3⟩
theorem turn_err {K : NK} {s : NSt} {from_ : Int} {r : List V} (h : chkN K from_ r ≠ 0) (on : Bool) : turnN K s on from_ r = (s, [], [], chkN K from_ r) := by
  unfold turnN
  unfold chkN at h ⊢
  split
  · rename_i h1
    rw [if_pos h1] at h
    split
    · rename_i h2; rw [if_pos h2] at h; exact absurd rfl h
    · rfl
  · rename_i h1
    rw [if_neg h1] at h
    split
    · rfl
    · rename_i h3
      rw [if_neg h3] at h
      split
      · rename_i h2; rw [if_pos h2] at h; exact absurd rfl h
      · rfl
/-- the kinds' own turns -/
def workN (K : NK) (s : NSt) (on : Bool) (from_ : Int) (r : List V) : Turn :=
  if K.kind = 2 then trimN K s on (keyR K.keep r) else if K.kind = 3 then (if from_ = 2 then sideN K s on r else sourceN K s on r) else leafN K s on r
theorem turn_ok0 {K : NK} {s : NSt} {from_ : Int} {r : List V} (h : chkN K from_ r = 0) (on : Bool) : turnN K s on from_ r = workN K s on from_ r ∧ (from_ = 1 ∨ (from_ = 2 ∧ K.kind = 3)) ∧ fitsR (if from_ = 2 then K.side.length else K.inn) r = true := by
  unfold turnN workN
  unfold chkN at h
  by_cases h1 : from_ = 2 ∧ K.kind = 3
  · rw [if_pos h1] at h ⊢
    obtain ⟨rfl, hk⟩ := h1
    rw [if_neg (show ¬ K.kind = 2 by omega), if_pos hk, if_pos rfl, if_pos rfl]
    by_cases h2 : fitsR K.side.length r = true
    · rw [if_pos h2]; exact ⟨rfl, .inr ⟨rfl, hk⟩, h2⟩
    · rw [if_neg h2] at h; cases h
  · rw [if_neg h1] at h ⊢
    by_cases h2 : from_ = 1
    · subst h2
      rw [if_neg (show ¬ (1 : Int) ≠ 1 by simp)] at h ⊢
      rw [if_neg (show ¬ (1 : Int) = 2 by decide), if_neg (show ¬ (1 : Int) = 2 by decide)]
      by_cases h3 : fitsR K.inn r = true
      · rw [if_pos h3]
        exact ⟨rfl, .inl rfl, h3⟩
      · rw [if_neg h3] at h; cases h
    · rw [if_pos h2] at h; cases h
theorem meth_leaf_on (v : Value) (w : World) : (method 310 74 v "osier/node.on").run Try.prog w = .ok (106, v) w := by kernel_rfl
theorem meth_trim_on (v : Value) (w : World) : (method 310 77 v "osier/node.on").run Try.prog w = .ok (110, v) w := by kernel_rfl
theorem meth_meet_on (v : Value) (w : World) : (method 310 64 v "osier/node.on").run Try.prog w = .ok (70, v) w := by kernel_rfl
section
variable {w : World} {lab : Lab} {K : NK} {v : NdV} {a : NAbs} {N : Nat}
set_option maxRecDepth 100000 in
set_option maxHeartbeats 2000000 in
theorem node_on (h : NdQ w lab K v a (S1 K a) N) (hK : NKOk K) (hO : NOk K a.now) (hN : N + 1048576 ≤ 8796093022208) (from_ : Int) {r : List V} {A : Option Addr} {n : Nat} (c : Nat) (ha : ArgR w A n r) (hA : Aside lab.dom A) (hB : ∀ x, A = some x → x.block < w.heap.size) :
    Calls Try.prog 12 #[.pointer (some ⟨v.n, 0, none⟩), .int .i64 from_, .slice A n c] w (TurnAt w lab K v a (N + 1048576) (turnN K a.now true from_ r)) := by
  have hE1 := Ext.alloc w (.cells #[.slice none 0 0, .slice none 0 0] 53)
  have hq := h.ext hE1
  have RB := hide (Blk.new w 53 #[.slice none 0 0, .slice none 0 0])
  have HCK := hide (check_any hq.r from_ c (ha.ext hE1))
  have HQ := hide hq; have HE := hide hE1; have HRB := hide (show ¬ lab.dom w.heap.size from fun ⟨i, hi⟩ => by have := h.r.lt _ _ hi; omega)
  have HLT := hide (fun (x : Addr) (hx : A = some x) => Nat.lt_of_lt_of_le (hB x hx) hE1.size)
  have HO := hide hO; have HA := hide (ha.ext hE1); have HAS := hide hA; have HKK := hide hK
  clear h ha hq hE1 hA hO hK hB
  obtain ⟨rb, hrb⟩ : ∃ rb, w.heap.size = rb := ⟨_, rfl⟩
  have HR := hide (Nat.le_of_eq hrb)
  rw [hrb] at RB HRB
  obtain ⟨t, ht⟩ : ∃ t, turnN K a.now true from_ r = t := ⟨_, rfl⟩
  rw [ht]
  have HT := hide ht
  clear ht
  go_enter Try.func12, Try.ntmps12
  go_upto_region 1 with fail
  generalize hw1 : w.alloc (.cells #[.slice none 0 0, .slice none 0 0] 53) = w1 at *
  clear hrb hw1
  go_upto_region 2 with ((with_reducible refine HCK.out.mono ?_); rintro e w2 ⟨rfl, h2⟩; have X2 := hide h2; clear h2)
  by_cases hz : chkN K from_ r = 0
  · rw [hz]
    obtain ⟨e1, e2, e3⟩ := turn_ok0 hz true (s := a.now)
    have HT2 := HT.out
    rw [e1] at HT2
    have Q2 := hide (HQ.out.ext X2.out)
    have HA2 := HA.out.ext X2.out
    have hlt2 := fun (x : Addr) (hx : A = some x) => Nat.lt_of_lt_of_le (HLT.out x hx) X2.out.size
    have B2 := hide (RB.out.ext X2.out)
    have n1 := Q2.out.r.kind.2.1
    clear hz
    rcases HKK.out.kind with hk | hk | hk
    · have hwt : workT K = 74 := by unfold workT; rw [if_neg (by omega), if_neg (by omega)]
      rw [hwt] at n1
      clear hwt
      have hmeth := meth_leaf_on
      have hfr : from_ = 1 := e2.resolve_right (by omega)
      subst hfr
      rw [if_neg (by decide)] at e3
      have HW := leaf_on Q2.out hk (by omega) 1 c HA2 e3 HAS.out
      rw [show leafN K a.now true r = t by rw [← HT2]; unfold workN; rw [if_neg (by omega), if_neg (by omega)]] at HW
      have HW := hide HW
      clear HA2 hlt2 e1 e2 e3 HT2
      go_wp2_with ((with_reducible refine HW.out.mono ?_); rintro e w3 ⟨y, lab3, rfl, q3, st3, A4, c4, A5, c5, P4, P5, rfl, hm1, hm2, hm3, hm4⟩; have M3 := hide (show MovedAt w2.heap.size lab3.dom w3 t.2.1 t.2.2.1 _ from ⟨A4, c4, A5, c5, P4, P5, rfl, hm1, hm2, hm3, hm4⟩); have Q3 := hide q3; have ST3 := hide st3; have B3 := hide (st3.2.blk B2.out HRB.out); have f0 := B3.out.frozen 0; have f1 := B3.out.frozen 1; have c0 : _ = some (Value.slice none 0 0) := B3.out.cell 0; have c1 : _ = some (Value.slice none 0 0) := B3.out.cell 1; clear q3 st3 hm1 hm2 hm3 hm4)
      have R := (two_cells B3.out (.slice A4 t.2.1.length c4) (.slice A5 t.2.2.1.length c5))
      have r0 := R.cell 0
      have r1 := R.cell 1
      refine bodyPost_ret (v := .tuple #[.agg #[.slice A4 t.2.1.length c4, .slice A5 t.2.2.1.length c5], .int .i64 t.2.2.2]) (by simp [results, Try.results12, go_sem, r0, r1]) rfl ?_
      have hlt := RB.out.lt
      have hs1 := HE.out.size
      have hs2 := X2.out.size
      exact turn_gen (s := t.1) rfl HE.out (step_on (step_ext X2.out) ST3.out) (Q3.out.more (by omega)) HR.out HRB.out hlt (M3.out.weak (by omega) (by omega))
    · have hwt : workT K = 77 := by unfold workT; rw [if_pos hk]
      rw [hwt] at n1
      clear hwt
      have hmeth := meth_trim_on
      have hfr : from_ = 1 := e2.resolve_right (by omega)
      subst hfr
      rw [if_neg (by decide)] at e3
      have HW := trim_on Q2.out HKK.out HO.out hk (by omega) 1 c HA2 e3
      rw [show trimN K a.now true (keyR K.keep r) = t by rw [← HT2]; unfold workN; rw [if_pos hk]] at HW
      have HW := hide HW
      clear HA2 hlt2 e1 e2 e3 HT2
      go_wp2_with ((with_reducible refine HW.out.mono ?_); rintro e w3 ⟨y, lab3, rfl, q3, st3, A4, c4, A5, c5, P4, P5, rfl, hm1, hm2, hm3, hm4⟩; have M3 := hide (show MovedAt w2.heap.size lab3.dom w3 t.2.1 t.2.2.1 _ from ⟨A4, c4, A5, c5, P4, P5, rfl, hm1, hm2, hm3, hm4⟩); have Q3 := hide q3; have ST3 := hide st3; have B3 := hide (st3.2.blk B2.out HRB.out); have f0 := B3.out.frozen 0; have f1 := B3.out.frozen 1; have c0 : _ = some (Value.slice none 0 0) := B3.out.cell 0; have c1 : _ = some (Value.slice none 0 0) := B3.out.cell 1; clear q3 st3 hm1 hm2 hm3 hm4)
      have R := (two_cells B3.out (.slice A4 t.2.1.length c4) (.slice A5 t.2.2.1.length c5))
      have r0 := R.cell 0
      have r1 := R.cell 1
      refine bodyPost_ret (v := .tuple #[.agg #[.slice A4 t.2.1.length c4, .slice A5 t.2.2.1.length c5], .int .i64 t.2.2.2]) (by simp [results, Try.results12, go_sem, r0, r1]) rfl ?_
      have hlt := RB.out.lt
      have hs1 := HE.out.size
      have hs2 := X2.out.size
      exact turn_gen (s := t.1) rfl HE.out (step_on (step_ext X2.out) ST3.out) (Q3.out.more (by omega)) HR.out HRB.out hlt (M3.out.weak (by omega) (by omega))
    · have hwt : workT K = 64 := by unfold workT; rw [if_neg (by omega), if_pos hk]
      rw [hwt] at n1
      clear hwt
      have hmeth := meth_meet_on
      have HW := meet_on Q2.out HKK.out HO.out hk hN (e2.imp id And.left) c HA2 e3 HAS.out hlt2
      rw [show (if from_ = 2 then sideN K a.now true r else sourceN K a.now true r) = t by rw [← HT2]; unfold workN; rw [if_neg (show ¬ K.kind = 2 by omega), if_pos hk]] at HW
      have HW := hide HW
      clear HA2 hlt2 e1 e2 e3 HT2
      go_wp2_with ((with_reducible refine HW.out.mono ?_); rintro e w3 ⟨y, lab3, rfl, q3, st3, A4, c4, A5, c5, P4, P5, rfl, hm1, hm2, hm3, hm4⟩; have M3 := hide (show MovedAt w2.heap.size lab3.dom w3 t.2.1 t.2.2.1 _ from ⟨A4, c4, A5, c5, P4, P5, rfl, hm1, hm2, hm3, hm4⟩); have Q3 := hide q3; have ST3 := hide st3; have B3 := hide (st3.2.blk B2.out HRB.out); have f0 := B3.out.frozen 0; have f1 := B3.out.frozen 1; have c0 : _ = some (Value.slice none 0 0) := B3.out.cell 0; have c1 : _ = some (Value.slice none 0 0) := B3.out.cell 1; clear q3 st3 hm1 hm2 hm3 hm4)
      have R := (two_cells B3.out (.slice A4 t.2.1.length c4) (.slice A5 t.2.2.1.length c5))
      have r0 := R.cell 0
      have r1 := R.cell 1
      refine bodyPost_ret (v := .tuple #[.agg #[.slice A4 t.2.1.length c4, .slice A5 t.2.2.1.length c5], .int .i64 t.2.2.2]) (by simp [results, Try.results12, go_sem, r0, r1]) rfl ?_
      have hlt := RB.out.lt
      have hs1 := HE.out.size
      have hs2 := X2.out.size
      exact turn_gen (s := t.1) rfl HE.out (step_on (step_ext X2.out) ST3.out) (Q3.out.more (by omega)) HR.out HRB.out hlt (M3.out.weak (by omega) (by omega))
  · have HT := hide (show t = (a.now, [], [], chkN K from_ r) from by rw [← HT.out]; exact turn_err hz true)
    generalize chkN K from_ r = z at *
    have hz2 : ¬ z = 0 := hz
    have hz3 : (z != 0) = true := by simp [hz2]
    have ST2 := hide (step_ext (lab := lab) X2.out)
    have Q2 := hide ((HQ.out.ext X2.out).more (Nat.le_add_right N 1048576))
    have B2 := hide (RB.out.ext X2.out)
    have f0 := B2.out.frozen 0
    have f1 := B2.out.frozen 1
    have c0 : _ = some (Value.slice none 0 0) := B2.out.cell 0
    have c1 : _ = some (Value.slice none 0 0) := B2.out.cell 1
    go_wp2_with fail
    have R := (two_cells B2.out (.slice none 0 0) (.slice none 0 0))
    have r0 := R.cell 0
    have r1 := R.cell 1
    refine bodyPost_ret (v := .tuple #[.agg #[.slice none 0 0, .slice none 0 0], .int .i64 z]) (by simp [results, Try.results12, go_sem, r0, r1]) rfl ?_
    exact turn_nil HT.out HE.out ST2.out Q2.out HR.out HRB.out RB.out.lt
end
end Go.Proofs.Ytahdiiaadjdmcaa
