import Derived.Test.YtoahckibhmoikaaDoorLawBack
namespace Go.Proofs.YtoahckibhmoikaaDoor
open Go.RowKit

theorem app_bytes2 {w : World} {ops : Array Oper} {rest : List Oper} {o : Oper} {a : Act} {Q : Exit → Act → World → Prop} (hgd : o.guard = none) (s x : Operand)
    (ho : o.op = .call { callee := .builtin .append, args := #[s, x], argTypes := #[38, 38] })
    (w0 : World) (hE : Ext w0 w) (A : Option Addr) (n c : Nat) (l : List UInt8) (hs : a.eval s = .slice A n c) (hown : OwnB w0 w A n c l)
    (A2 : Option Addr) (m c2 : Nat) (news : List UInt8) (hx : a.eval x = .slice A2 m c2) (hr : Sl w A2 m 1 (bcells news)) (hm : n + m ≤ 140737488355328)
    (h : ∀ A' c' w', Hid (OwnB w0 w' A' (n + m) c' (l ++ news)) → Hid (Ext w0 w') → Hid (w.grownBy w' (Value.slice A n c).ownBlock) → wpList Tryd.prog ops Q rest (a.put o.dst (.slice A' (n + m) c')) w') : wpList Tryd.prog ops Q (o :: rest) a w := by
  obtain ⟨i0, hi0, hz0, hz1, hz2⟩ := info_parts infoB
  refine wpList_append_sl hgd s x _ ho 5 i0 _ 1 1 (by kernel_rfl) hi0 hz0 hz1 hz2 rfl (by omega) w0 hE _ n (bcells l) hs hown.2 A2 m c2 (bcells news) hx hr (bcells_one _) (by unfold maxLen; omega) (by omega) ?_
  intro A' c' w' h1 h2 h3 _
  refine h A' c' w' ⟨?_, by rw [bcells_append]; exact h1.out⟩ h2 h3
  have := hr.1; rw [bcells_len] at this
  rw [List.length_append, ← hown.1]; omega
theorem OwnR.keepB {w0 w w' : World} {A A' : Option Addr} {n c m d : Nat} {r : List V} {l : List UInt8} (h : OwnR w0 w A n c r) (hb : w.grownBy w' (Value.slice A' m d).ownBlock) (h' : OwnB w0 w A' m d l) : OwnR w0 w' A n c r :=
  ⟨h.1, own_keep h.2 hb h'.2 (by decide)⟩
theorem OwnB.sl {w0 w : World} {A : Option Addr} {n c : Nat} {l : List UInt8} (h : OwnB w0 w A n c l) : Sl w A n 1 (bcells l) := Sl.own h.2
theorem scanR_len : ∀ (n : Nat) (l : List UInt8), l.length ≤ n → (scanR l).1.length ≤ l.length ∧ (scanR l).2.length ≤ l.length
  | _, [], _ => by simp [scanR]
  | _, [b], _ => by simp [scanR]
  | 0, _ :: _ :: _, h => by simp at h
  | n + 1, b :: c :: l, h => by
    have h1 := scanR_len n l (by simp at h; omega)
    have h2 := scanR_len n (c :: l) (by simp at h ⊢; omega)
    simp only [scanR]
    split
    · split
      · simp; omega
      · simp; omega
    · simp at h2 ⊢; omega
theorem refGo_small : ∀ (k : Nat) (b : List UInt8) (r : List V) (N : Nat), b.length ≤ N → refGo k b = some r → ∀ v ∈ r, v.t.size ≤ N ∧ (v.k = 1 ∨ v.k = 2)
  | k, [], r, N, hN, h => by cases k <;> (simp [refGo] at h; subst h; simp)
  | 0, _ :: _, _, _, hN, h => by simp [refGo] at h
  | k + 1, b :: l, r, N, hN, h => by
    simp only [List.length_cons] at hN
    simp only [refGo] at h
    split at h
    · obtain ⟨r', h1, rfl⟩ := Option.map_eq_some_iff.1 h
      intro u hu
      rcases List.mem_cons.1 hu with rfl | hu
      · exact ⟨Nat.zero_le _, .inl rfl⟩
      · exact refGo_small k _ r' N (by rw [List.length_drop]; omega) h1 u hu
    · split at h
      · obtain ⟨r', h1, rfl⟩ := Option.map_eq_some_iff.1 h
        have hs := scanR_len l.length l (Nat.le_refl _)
        intro u hu
        rcases List.mem_cons.1 hu with rfl | hu
        · exact ⟨show (scanR l).1.toArray.size ≤ N by rw [List.size_toArray]; omega, .inr rfl⟩
        · exact refGo_small k _ r' N (by omega) h1 u hu
      · cases h
theorem ref_wf {k : Nat} {b : List UInt8} {r : List V} (h : refGo k b = some r) : wfR r := fun v hv => by
  have h1 := refGo_wf k b r h v hv
  have h2 := (refGo_small k b r b.length (Nat.le_refl _) h v hv).2
  exact ⟨by rcases h2 with h2 | h2 <;> (rw [h2]; omega), h1⟩
theorem add_byte (N : Nat) (y : UInt8) (h : N < 72057594037927936) : IntKind.u64.wrap (IntKind.u64.wrap ((N : Int) * 256) + IntKind.u64.wrap (y.toNat : Int)) = ((N * 256 + y.toNat : Nat) : Int) := by
  have hy := y.toNat_lt
  rw [IntKind.wrap_u64, IntKind.wrap_u64, IntKind.wrap_u64]; omega
theorem unbias_sub (N : Nat) (h : N < 18446744073709551616) : wrap64 (IntKind.u64.wrap ((N : Int) - 9223372036854775808)) = unbias N := by
  rw [IntKind.wrap_u64]; unfold wrap64 unbias; omega
theorem beq_bytes (p b : List UInt8) : ((⟨p.toArray⟩ : ByteArray) == ⟨b.toArray⟩) = (p == b) := by
  show ((⟨p⟩ : Array UInt8) == ⟨b⟩) = (p == b)
  simp
theorem refR_none {b : List UInt8} (h : refGo 30 b = none) : refR b = ([], 22) := by rw [refR, h]

set_option maxRecDepth 100000 in
set_option maxHeartbeats 2000000 in
theorem ref_unpack (b : List UInt8) (A : Option Addr) (n c : Nat) (w : World) (ha : BytesAt w A n b) (hn : n ≤ 1048576) :
    Calls Tryd.prog 28 #[.slice A n c] w (RetRowErr w 54 (refR b)) := by
  have Ha := hide ha; have hl := hide ha.len; clear ha
  go_enter Tryd.func28, Tryd.ntmps28
  go_wp2_with fail
  go_loopw [4, 5] (fun rr k w' => ∃ (i m : Nat) (A' : Option Addr) (c' : Nat) (r : List V), i ≤ n + 3 ∧ k = .int .i64 i ∧ rr = .slice A' m c' ∧ m ≤ 30 ∧ Hid (OwnR w w' A' m c' r) ∧ Hid (Ext w w') ∧ Hid (refGo 30 b = (refGo (30 - m) (b.drop i)).map (r ++ ·))) (fun _ k _ => n + 3 - (intOf k).toNat)
  case atStart => exact ⟨0, 0, none, 0, [], by omega, rfl, rfl, by omega, ⟨rfl, ownsNil _ _ _⟩, Ext.refl _, by show _ = _; rw [List.drop_zero]; cases refGo 30 b <;> rfl⟩
  case round =>
    obtain ⟨i, m, A', c', r, hin, rfl, rfl, hm, ho, hw, hD⟩ := hrel
    obtain ⟨wo, rfl⟩ : ∃ wo : World, wo = wr := ⟨_, rfl⟩
    have hi0 : (0 : Int) ≤ (i : Int) := by omega
    by_cases h : i < n
    · obtain ⟨b0, off, x, rfl, hx, _, d0⟩ := (Ha.out.ext hw.out).get (i := i) h
      have hdr := hide (drop_get hx); clear hx
      have hi1 : (i : Int) < (n : Int) := by omega
      have NONE : Hid (refGo (30 - m) (b.drop i) = none) → Hid (refR b = ([], 22)) := fun h => refR_none (by rw [hD.out, h.out]; rfl)
      by_cases h30 : m = 30
      · subst h30
        have hn0 : Hid (refGo (30 - 30) (b.drop i) = none) := by rw [hdr.out]; rfl
        go_wp2_with fail
        go_ret2
        have en := (NONE hn0).out
        exact ⟨none, 0, by rw [en]; rfl, by rw [en]; exact ownsNil _ _ _, hw.out⟩
      · have hm30 : (m : Int) < 30 := by omega
        have hk : Hid (30 - m = (30 - (m + 1)) + 1) := by show _ = _; omega
        by_cases h1 : (x.toNat : Int) = 1
        · have H1 := hide (show x = 1 from UInt8.toNat_inj.1 (show x.toNat = 1 by omega))
          rw [h1] at d0; clear h1
          by_cases h9 : i + 9 ≤ n
          · have hq9 : (9 : Int) ≤ (n : Int) - (i : Int) := by omega
            go_wp2_with fail
            go_loopw [6, 7] (fun v k w' => ∃ j : Nat, j ≤ 8 ∧ k = .int .i64 ((j + 1 : Nat) : Int) ∧ v = .int .u64 ((num8 ((b.drop (i + 1)).take j) : Nat) : Int) ∧ w' = wo) (fun _ k _ => 9 - (intOf k).toNat)
            case atStart => exact ⟨0, by omega, rfl, rfl, rfl⟩
            case round =>
              obtain ⟨j, hj, rfl, rfl, rfl⟩ := hrel
              by_cases h8 : j < 8
              · obtain ⟨b1, off1, y, hA, hy, _, d1⟩ := (Ha.out.ext hw.out).get (i := i + (j + 1)) (by omega)
                obtain ⟨rfl, rfl⟩ : b0 = b1 ∧ off = off1 := by cases hA; exact ⟨rfl, rfl⟩
                clear hA
                have Hy := hide (show (b.drop (i + 1))[j]? = some y by rw [List.getElem?_drop, show i + 1 + j = i + (j + 1) by omega]; exact hy); clear hy
                have hj1 : ((j + 1 : Nat) : Int) ≤ 8 := by omega
                have hj2 : (0 : Int) ≤ (i : Int) + ((j + 1 : Nat) : Int) := by omega
                have hj3 : (i : Int) + ((j + 1 : Nat) : Int) < (n : Int) := by omega
                go_wp2_with fail
                refine ⟨⟨j + 1, by omega, by go_num, ?_, trivial⟩, by simp [intOf]; omega⟩
                rw [num8_snoc _ _ _ Hy.out, add_byte _ _ (num8_bound _ (by rw [List.length_take]; omega))]
              · obtain rfl : j = 8 := by omega
                have hu := hide (be_num8 ((b.drop (i + 1)).take 8) (by rw [List.length_take, List.length_drop]; have := hl.out; omega)).2
                have hs1 := hide (row_lit wr [(⟨1, wrap64 (IntKind.u64.wrap (((num8 ((b.drop (i + 1)).take 8) : Nat) : Int) - 9223372036854775808)), ByteArray.empty⟩ : V)] 54 wr.heap.size rfl)
                go_wp2_with (at_builtin; refine app_row rfl (.tmp 44) (.tmp 49) rfl w (hw.out.trans (Ext.alloc _ _)) _ m _ r rfl (ho.out.alloc _) _ 1 1 [_] rfl hs1.out (by omega) ?_; intro A4 c4 w4 own4 E4 _)
                go_roundw
                case rel =>
                  have h9 := own4.out
                  rw [unbias_sub _ hu.out] at h9
                  refine ⟨i + 9, m + 1, A4, c4, _, by omega, by go_num, rfl, by omega, h9, E4.out, ?_⟩
                  show _ = _
                  rw [hD.out, hdr.out, hk.out, H1.out]
                  show Option.map _ (if _ then _ else _) = _
                  rw [if_pos ⟨rfl, by rw [List.length_drop]; have := hl.out; omega⟩, List.drop_drop, show i + 1 + 8 = i + 9 by omega]
                  cases refGo (30 - (m + 1)) (b.drop (i + 9)) <;> simp
                case measure => simp [intOf]; omega
          · have hq9 : ¬ (9 : Int) ≤ (n : Int) - (i : Int) := by omega
            have hn0 : Hid (refGo (30 - m) (b.drop i) = none) := by
              rw [hdr.out, hk.out, H1.out]
              show (if _ then _ else _) = none
              rw [if_neg (by rw [List.length_drop]; have := hl.out; omega), if_neg (by decide)]
            go_wp2_with fail
            go_ret2
            have en := (NONE hn0).out
            exact ⟨none, 0, by rw [en]; rfl, by rw [en]; exact ownsNil _ _ _, hw.out⟩
        · have H1 := hide h1
          have hb1 : ((x.toNat : Int) == 1) = false := by simpa using h1
          by_cases h2 : (x.toNat : Int) = 2
          · have H2 := hide (show x = 2 from UInt8.toNat_inj.1 (show x.toNat = 2 by omega))
            rw [h2] at d0; clear h1 hb1 h2
            go_wp2_with fail
            go_loopw [5, 8] (fun k t w' => ∃ (i' m' : Nat) (At : Option Addr) (ct : Nat) (acc : List UInt8), i + 1 ≤ i' ∧ i' ≤ n + 1 ∧ k = .int .i64 i' ∧ t = .slice At m' ct ∧ m' ≤ i' ∧ Hid (OwnB w w' At m' ct acc) ∧ Hid (OwnR w w' A' m c' r) ∧ Hid (Ext w w') ∧ Hid (scanR (b.drop (i + 1)) = (acc ++ (scanR (b.drop i')).1, (scanR (b.drop i')).2))) (fun k _ _ => n + 3 - (intOf k).toNat)
            case atStart => exact ⟨i + 1, 0, none, 0, [], by omega, by omega, by go_num, rfl, by omega, ⟨rfl, ownsNilB _ _⟩, ho.out, hw.out, rfl⟩
            case round =>
              obtain ⟨i3, m3, At, ct, acc, hi3, hin3, rfl, rfl, hm3, ho3, hr3, hw3, hS⟩ := hrel
              have hj0 : (0 : Int) ≤ (i3 : Int) := by omega
              have DONE : ∀ (text : List UInt8), Hid (scanR (b.drop (i + 1)) = (text, b.drop (i3 + 2))) → Hid (refGo 30 b = (refGo (30 - (m + 1)) (b.drop (i3 + 2))).map ((r ++ [(⟨2, 0, ⟨text.toArray⟩⟩ : V)]) ++ ·)) := fun text h => by
                show _ = _
                rw [hD.out, hdr.out, hk.out, H2.out]
                show Option.map _ (if _ then _ else (if _ then _ else _)) = _
                rw [if_neg (fun e => absurd e.1 (by decide)), if_pos rfl, h.out]
                cases refGo (30 - (m + 1)) (b.drop (i3 + 2)) <;> simp
              have Bs := hide (run_bytes_str (c := ct) (src := 38) (dst := 9) Tryd.underlying38 Tryd.underlying5 Tryd.underlying9 ho3.out.sl)
              have hs2 := hide (row_lit wr [(⟨2, 0, ⟨acc.toArray⟩⟩ : V)] 54 wr.heap.size rfl)
              by_cases h : i3 < n
              · obtain ⟨b1, off1, y, hA, hy, _, D1⟩ := Ha.out.get (i := i3) h
                obtain ⟨rfl, rfl⟩ : b0 = b1 ∧ off = off1 := by cases hA; exact ⟨rfl, rfl⟩
                clear hA
                have hdy := hide (drop_get hy); clear hy
                have d1 := hw3.out.cell D1
                have D1 := hide D1
                have hj1 : (i3 : Int) < (n : Int) := by omega
                by_cases hy0 : (y.toNat : Int) = 0
                · have Hy := hide (show y = 0 from UInt8.toNat_inj.1 (show y.toNat = 0 by omega))
                  rw [hy0] at d1 D1; clear hy0
                  have hs1 := hide (bytes_lit wr [0] 5 wr.heap.size rfl)
                  by_cases h4 : i3 + 1 < n
                  · obtain ⟨b1, off1, z, hA, hz, _, D2⟩ := Ha.out.get (i := i3 + 1) h4
                    obtain ⟨rfl, rfl⟩ : b0 = b1 ∧ off = off1 := by cases hA; exact ⟨rfl, rfl⟩
                    clear hA
                    have hdz := hide (drop_get hz); clear hz
                    have d2 := hw3.out.cell D2
                    have D2 := hide D2
                    have hj2 : (0 : Int) ≤ (i3 : Int) + 1 := by omega
                    have hj3 : (i3 : Int) + 1 < (n : Int) := by omega
                    by_cases hz0 : (z.toNat : Int) = 0
                    · have Hz := hide (show z = 0 from UInt8.toNat_inj.1 (show z.toNat = 0 by omega))
                      rw [hz0] at d2 D2; clear hz0
                      have DN := DONE acc (by show _ = _; rw [hS.out, hdy.out, hdz.out, Hy.out, Hz.out]; simp [scanR])
                      go_wp2_with (first | ((with_reducible refine at_conv ?_); refine wpList_val rfl _ (exec_convg rfl Bs.out) ?_) | (at_builtin; refine app_row rfl (.tmp 105) (.tmp 109) rfl w (hw3.out.trans (Ext.alloc _ _)) _ m _ r rfl (hr3.out.alloc _) _ 1 1 [_] rfl hs2.out (by omega) ?_; intro A4 c4 w4 own4 E4 _))
                      go_roundw
                      case rel => exact ⟨i3 + 2, m + 1, A4, c4, _, by omega, by go_num, rfl, by omega, own4.out, E4.out, DN.out⟩
                      case measure => simp [intOf]; omega
                    · have Hz := hide (show ¬ z = 0 from fun e => hz0 (by rw [e]; rfl))
                      have hq0 : ((z.toNat : Int) == 0) = false := by simpa using hz0
                      go_wp2_with (at_builtin; refine app_bytes2 rfl (.tmp 87) (.tmp 92) rfl w (hw3.out.trans (Ext.alloc _ _)) _ m3 _ _ rfl (ho3.out.alloc _) _ 1 1 [0] rfl hs1.out (by omega) ?_; intro A4 c4 w4 own4 E4 K4; have ho4 := hide ((hr3.out.alloc _).keepB K4.out (ho3.out.alloc _)); have e1 := E4.out.cell D1.out)
                      go_roundw
                      case rel =>
                        refine ⟨i3 + 2, m3 + 1, A4, c4, acc ++ [0], by omega, by omega, by go_num, rfl, by omega, own4.out, ho4.out, E4.out, ?_⟩
                        show _ = _
                        rw [hS.out, hdy.out, hdz.out, Hy.out]
                        simp [scanR, Hz.out]
                      case measure => simp [intOf]; omega
                  · have hj2 : ¬ (i3 : Int) + 1 < (n : Int) := by omega
                    go_wp2_with (at_builtin; refine app_bytes2 rfl (.tmp 87) (.tmp 92) rfl w (hw3.out.trans (Ext.alloc _ _)) _ m3 _ _ rfl (ho3.out.alloc _) _ 1 1 [0] rfl hs1.out (by omega) ?_; intro A4 c4 w4 own4 E4 K4; have ho4 := hide ((hr3.out.alloc _).keepB K4.out (ho3.out.alloc _)); have e1 := E4.out.cell D1.out)
                    go_roundw
                    case rel =>
                      refine ⟨i3 + 2, m3 + 1, A4, c4, acc ++ [0], by omega, by omega, by go_num, rfl, by omega, own4.out, ho4.out, E4.out, ?_⟩
                      show _ = _
                      have e1 : b.drop (i3 + 1) = [] := List.drop_of_length_le (by have := hl.out; omega)
                      have e2 : b.drop (i3 + 2) = [] := List.drop_of_length_le (by have := hl.out; omega)
                      rw [hS.out, hdy.out, e1, e2, Hy.out]
                      simp [scanR]
                    case measure => simp [intOf]; omega
                · have Hy := hide (show ¬ y = 0 from fun e => hy0 (by rw [e]; rfl))
                  have hq0 : ((y.toNat : Int) == 0) = false := by simpa using hy0
                  have hs1 := hide (bytes_lit wr [y] 5 wr.heap.size rfl)
                  go_wp2_with (at_builtin; refine app_bytes2 rfl (.tmp 87) (.tmp 92) rfl w (hw3.out.trans (Ext.alloc _ _)) _ m3 _ _ rfl (ho3.out.alloc _) _ 1 1 [y] rfl hs1.out (by omega) ?_; intro A4 c4 w4 own4 E4 K4; have ho4 := hide ((hr3.out.alloc _).keepB K4.out (ho3.out.alloc _)); have e1 := E4.out.cell D1.out)
                  go_roundw
                  case rel =>
                    refine ⟨i3 + 1, m3 + 1, A4, c4, acc ++ [y], by omega, by omega, by go_num, rfl, by omega, own4.out, ho4.out, E4.out, ?_⟩
                    show _ = _
                    rw [hS.out, hdy.out, scanR_cons _ Hy.out]
                    simp
                  case measure => simp [intOf]; omega
              · have DN := DONE acc (by show _ = _; rw [hS.out, List.drop_of_length_le (show b.length ≤ i3 by have := hl.out; omega), List.drop_of_length_le (show b.length ≤ i3 + 2 by have := hl.out; omega)]; simp [scanR])
                go_wp2_with (first | ((with_reducible refine at_conv ?_); refine wpList_val rfl _ (exec_convg rfl Bs.out) ?_) | (at_builtin; refine app_row rfl (.tmp 105) (.tmp 109) rfl w (hw3.out.trans (Ext.alloc _ _)) _ m _ r rfl (hr3.out.alloc _) _ 1 1 [_] rfl hs2.out (by omega) ?_; intro A4 c4 w4 own4 E4 _))
                go_roundw
                case rel => exact ⟨i3 + 2, m + 1, A4, c4, _, by omega, by go_num, rfl, by omega, own4.out, E4.out, DN.out⟩
                case measure => simp [intOf]; omega
          · have hb2 : ((x.toNat : Int) != 2) = true := by simpa using h2
            have hn0 : Hid (refGo (30 - m) (b.drop i) = none) := by
              rw [hdr.out, hk.out]
              show (if _ then _ else _) = none
              rw [if_neg (fun e => h1 (by rw [e.1]; rfl)), if_neg (fun e => h2 (by rw [e]; rfl))]
            go_wp2_with fail
            go_ret2
            have en := (NONE hn0).out
            exact ⟨none, 0, by rw [en]; rfl, by rw [en]; exact ownsNil _ _ _, hw.out⟩
    · have hr30 := hide (show refGo 30 b = some r by
        have h1 := hD.out
        rw [List.drop_of_length_le (by have := hl.out; omega)] at h1
        have h2 : refGo (30 - m) [] = some [] := by cases 30 - m <;> rfl
        rw [h2] at h1
        rw [h1]; simp)
      have hsm : Hid (smallR r) := fun v hv => by
        have := (refGo_small 30 b r b.length (Nat.le_refl _) hr30.out v hv).1
        have := hl.out; omega
      have HP := hide (ref_pack r A' m c' wo (RowAt.own ho.out.2) (by omega) hsm.out (ref_wf hr30.out))
      have Bb := fun w' (hE : Ext w w') => hide (run_bytes_str (c := c) (src := 38) (dst := 9) Tryd.underlying38 Tryd.underlying5 Tryd.underlying9 (Ha.out.ext hE))
      obtain ⟨p, Hp⟩ : ∃ p, Hid (p = packRes r) := ⟨_, rfl⟩
      have he := packRes_err r
      have hpl := packRes_len r
      rw [← Hp.out] at HP he hpl
      have hR : Hid (refR b = if p = (b, 0) then (r, 0) else ([], 22)) := by
        show _ = _
        rw [refR, hr30.out]
        show (if packRes r = (b, 0) then _ else _) = _
        rw [← Hp.out]
      obtain ⟨p, pe⟩ := p
      dsimp only at he hpl
      by_cases he0 : pe = 0
      · subst he0
        clear he
        go_wp2_with fail
        refine HP.out.mono ?_
        intro e w1 h2
        obtain ⟨A1, c1, rfl, h2, _, h3⟩ := h2.bytes
        dsimp only at h2 ⊢
        have E1 := hide (hw.out.trans h3); have ho1 := hide (own_ext ho.out.2 h3)
        have Bp := hide (run_bytes_str (c := c1) (src := 38) (dst := 9) Tryd.underlying38 Tryd.underlying5 Tryd.underlying9 h2)
        have Bb := Bb w1 E1.out
        clear h2 h3
        by_cases hpb : p = b
        · subst hpb
          go_wp2_with (((with_reducible refine at_conv ?_); first | refine wpList_valw (by rfl) _ (exec_convg rfl Bp.out) ?_ | refine wpList_valw (by rfl) _ (exec_convg rfl Bb.out) ?_))
          go_ret2
          have en : refR p = (r, 0) := by rw [hR.out]; rfl
          obtain ⟨h10, h11⟩ := ho.out
          subst h10
          exact ⟨A', c', by rw [en]; rfl, by rw [en]; exact ho1.out, E1.out⟩
        · have hne : (p == b) = false := by simpa using hpb
          have hpb := hide hpb
          go_wp2_with (((with_reducible refine at_conv ?_); first | refine wpList_valw (by rfl) _ (exec_convg rfl Bp.out) ?_ | refine wpList_valw (by rfl) _ (exec_convg rfl Bb.out) ?_))
          go_ret2
          have en : refR b = ([], 22) := by rw [hR.out, if_neg (fun e => hpb.out (congrArg Prod.fst e))]
          exact ⟨none, 0, by rw [en]; rfl, by rw [en]; exact ownsNil _ _ _, E1.out⟩
      · have hq : ((pe : Int) != 0) = true := by simpa using he0
        have he1 : 0 ≤ pe := by omega
        have he2 : pe ≤ 100 := by omega
        go_wp2_with fail
        refine HP.out.mono ?_
        intro e w1 h2
        obtain ⟨A1, c1, rfl, h2, _, h3⟩ := h2.bytes
        dsimp only at h2 ⊢
        have E1 := hide (hw.out.trans h3); clear h2 h3
        go_wp2_with fail
        go_ret2
        have en : refR b = ([], 22) := by rw [hR.out, if_neg (fun e => he0 (congrArg Prod.snd e))]
        exact ⟨none, 0, by rw [en]; rfl, by rw [en]; exact ownsNil _ _ _, E1.out⟩
end Go.Proofs.YtoahckibhmoikaaDoor
