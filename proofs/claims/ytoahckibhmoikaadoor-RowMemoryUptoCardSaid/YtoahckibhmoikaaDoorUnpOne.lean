import Derived.Test.YtoahckibhmoikaaDoorUnpP
import Derived.Test.YtoahckibhmoikaaDoorLawPack
import Derived.Laws.ResultCell
import Derived.Laws.Rows
import Derived.Laws.Bits64b
namespace Go.Proofs.YtoahckibhmoikaaDoor
open Go.RowKit

def BytesAt (w : World) (A : Option Addr) (n : Nat) (b : List UInt8) : Prop := Sl w A n 1 (bcells b)
theorem BytesAt.len {w : World} {A : Option Addr} {n : Nat} {b : List UInt8} (h : BytesAt w A n b) : n = b.length := by have := h.1; rw [bcells_len] at this; omega
theorem BytesAt.ext {w w' : World} {A : Option Addr} {n : Nat} {b : List UInt8} (h : BytesAt w A n b) (hE : Ext w w') : BytesAt w' A n b := Sl.ext h hE
theorem cell_lt {w : World} {b o : Nat} {v : Value} (h : w.cell? ⟨b, o, none⟩ = some v) : b < w.heap.size := World.block_lt_of_cell? w ⟨b, o, none⟩ h
theorem BytesAt.get {w : World} {A : Option Addr} {n : Nat} {b : List UInt8} (h : BytesAt w A n b) {i : Nat} (hi : i < n) :
    ∃ b0 off x, A = some ⟨b0, off, none⟩ ∧ b[i]? = some x ∧ b0 < w.heap.size ∧ w.cell? ⟨b0, off + i, none⟩ = some (.int .u8 (x.toNat : Int)) := by
  have hl := h.len
  obtain ⟨b0, off, hA, hc⟩ := h.2 (by omega)
  have hx : b[i]? = some b[i] := List.getElem?_eq_getElem (by omega)
  have h1 := hc i _ (show (bcells b)[i]? = some (.int .u8 (b[i].toNat : Int)) by rw [bcells, List.getElem?_map, hx]; rfl)
  exact ⟨b0, off, b[i], hA, hx, cell_lt h1, h1⟩
theorem own_keep {w w' : World} {base base' size size' n n' : Nat} {e t : TypeId} {v v' : Value} {xs xs' : List Value} (h : w.ownsRow base e size v n xs) (hb : w.grownBy w' v'.ownBlock) (h' : w.ownsRow base' t size' v' n' xs') (hne : t ≠ e) : w'.ownsRow base e size v n xs := by
  refine ⟨h.1, ?_⟩
  rcases h.2 with h0 | ⟨g, cap, cur, hv, hbs, hh, hr⟩
  · exact .inl h0
  · exact .inr ⟨g, cap, cur, hv, hbs, Blk.grown (cs := cur) hh hb (own_ne_blk h' hh hne), hr⟩
theorem drop_get {α : Type} {b : List α} {i : Nat} {x : α} (h : b[i]? = some x) : b.drop i = x :: b.drop (i + 1) := by
  obtain ⟨hl, rfl⟩ := List.getElem?_eq_some_iff.1 h
  exact List.drop_eq_getElem_cons hl
theorem results_cell_tmp_row {P : Program} {fn : Func} {p u : Tmp} {ty : TypeId} (h : fn.results = #[.cell p ty, .tmp u]) (tmps : Array Value) (w : World) (g : Nat) (t : TypeId) (cs : Array Value) (fr : Nat × Nat) (d : TypeDesc)
    (hp : tmps.getD p undef = .pointer (some ⟨g, 0, none⟩)) (hg : w.heap[g]? = some (.cells cs t fr))
    (hu : P.underlying ty = some d) (hd : (match d with | .struct _ | .array _ _ => true | _ => false) = true) (hi : (P.info? ty).map (·.size) = some cs.size) :
    (results fn tmps).run P w = .ok (.tuple #[.agg cs, tmps.getD u undef]) w := by
  rw [results_cell_tmp h, hp]
  simp [asAddr, run_loadVar_row w g t ty cs fr d hg hu hd hi]
theorem num8_lt (l : List UInt8) : ∀ n : Nat, l.foldl (fun n c => n * 256 + c.toNat) n < (n + 1) * 256 ^ l.length := by
  induction l with
  | nil => intro n; simp
  | cons c l ih =>
    intro n
    have h1 := ih (n * 256 + c.toNat)
    have h2 := c.toNat_lt
    have h3 : (n * 256 + c.toNat + 1) * 256 ^ l.length ≤ (n + 1) * 256 * 256 ^ l.length := Nat.mul_le_mul_right _ (by omega)
    rw [List.length_cons, Nat.pow_succ, Nat.mul_comm (256 ^ l.length) 256, ← Nat.mul_assoc]
    exact Nat.lt_of_lt_of_le h1 h3
theorem num8_bound (l : List UInt8) (h : l.length ≤ 7) : num8 l < 72057594037927936 := by
  have h1 := num8_lt l 0
  have h2 : 256 ^ l.length ≤ 256 ^ 7 := Nat.pow_le_pow_right (by omega) h
  have h3 : (256 : Nat) ^ 7 = 72057594037927936 := by decide
  have h4 : (0 + 1) * 256 ^ l.length = 256 ^ l.length := by omega
  unfold num8; omega
theorem num8_snoc (l : List UInt8) (j : Nat) (y : UInt8) (h : l[j]? = some y) : num8 (l.take (j + 1)) = num8 (l.take j) * 256 + y.toNat := by
  rw [take_snoc'' l j y h]; simp [num8]
theorem or_byte (N : Nat) (y : UInt8) (h : N < 72057594037927936) : bits .or .u64 (IntKind.u64.wrap ((N : Int) * 256)) (IntKind.u64.wrap (y.toNat : Int)) = ((N * 256 + y.toNat : Nat) : Int) := by
  have hy := y.toNat_lt
  have e1 : IntKind.u64.wrap ((N : Int) * 256) = ((N * 256 : Nat) : Int) := by rw [IntKind.wrap_u64]; omega
  have e2 : IntKind.u64.wrap (y.toNat : Int) = (y.toNat : Int) := by rw [IntKind.wrap_u64]; omega
  rw [e1, e2, bits_or_u64_nat _ _ (by omega) (by omega)]
  have h2 := Nat.two_pow_add_eq_or_of_lt (i := 8) (b := y.toNat) (by omega) N
  rw [show (2 : Nat) ^ 8 * N = N * 256 by omega] at h2
  rw [h2]
theorem unbias_xor (N : Nat) (h : N < 18446744073709551616) : wrap64 (bits .xor .u64 (N : Int) 9223372036854775808) = unbias N := by
  have h1 := bits_xor_u64_nat N 9223372036854775808 h (by omega)
  have hr : -9223372036854775808 ≤ unbias N ∧ unbias N ≤ 9223372036854775807 := by unfold unbias; omega
  have h2 := bias_xor hr
  have h3 : bias (unbias N) = N := by unfold bias unbias; omega
  rw [h3] at h2
  have h4 : N ^^^ 9223372036854775808 = wrapN (unbias N) := by
    have h5 : (wrapN (unbias N) ^^^ 9223372036854775808) ^^^ 9223372036854775808 = N ^^^ 9223372036854775808 := by rw [h2]
    rw [Nat.xor_assoc, Nat.xor_self, Nat.xor_zero] at h5
    exact h5.symm
  rw [h4] at h1
  refine (congrArg wrap64 h1).trans ?_
  unfold wrap64 wrapN unbias; omega
def oneRes (b : List UInt8) : V × Nat := (one b).getD (⟨0, 0, ByteArray.empty⟩, 0)

set_option maxRecDepth 100000 in
set_option maxHeartbeats 1000000 in
theorem unpack_one (b : List UInt8) (A : Option Addr) (n c : Nat) (w : World) (ha : BytesAt w A n b) (hn : n ≤ 1048576) (hc : n ≤ c) (h0 : 0 < n) :
    Calls Tryd.prog 45 #[.slice A n c] w fun e w' => e = .returned (.tuple #[(oneRes b).1.val, .int .i64 (oneRes b).2]) ∧ Ext w w' := by
  have Ha := hide ha; have hl := hide ha.len; clear ha
  obtain ⟨b0, off, x, rfl, hx, hb1, d0⟩ := Ha.out.get h0
  obtain ⟨l, Hb⟩ : ∃ l, Hid (b = x :: l) := by
    cases b with
    | nil => simp at hx
    | cons y l => exact ⟨l, by simp at hx; rw [hx]; rfl⟩
  clear hx
  rw [Nat.add_zero] at d0
  have D0 := hide d0
  have hll := hide (show l.length + 1 = n by have := hl.out; rw [Hb.out] at this; simp at this; omega)
  by_cases h1 : (x.toNat : Int) = 1
  · have H1 := hide (show x = 1 from UInt8.toNat_inj.1 (show x.toNat = 1 by omega))
    rw [h1] at d0; clear h1
    by_cases h9 : n < 9
    · go_enter Tryd.func45, Tryd.ntmps45
      go_wp2_with fail
      refine bodyPost_ret (results_cell_tmp_row rfl _ _ w.heap.size 54 #[.int .i64 0, .int .i64 0, .string ⟨#[]⟩] (0, 0) _ rfl (heap_alloc_new _ _) Tryd.underlying54 rfl (by kernel_rfl)) rfl ?_
      exact ⟨by have e : one b = none := by rw [Hb.out, H1.out]; simp only [one, if_true]; rw [if_pos (by have := hll.out; omega)]
                rw [oneRes, e]; rfl, Ext.alloc _ _⟩
    · go_enter Tryd.func45, Tryd.ntmps45
      go_wp2_with fail
      go_loopw [4, 6, 22] (fun v _ k w' => ∃ j : Nat, j ≤ 8 ∧ k = .int .i64 j ∧ v = .int .u64 ((num8 (l.take j) : Nat) : Int) ∧ w' = w.alloc (.cells #[.int .i64 0, .int .i64 0, .string ⟨#[]⟩] 54)) (fun _ _ k _ => 8 - (intOf k).toNat)
      case atStart => exact ⟨0, by omega, rfl, rfl, rfl⟩
      case round =>
        obtain ⟨j, hj, rfl, rfl, rfl⟩ := hrel
        by_cases h8 : j < 8
        · obtain ⟨b1, off1, y, hA, hy, hb2, d1⟩ := Ha.out.get (i := 1 + j) (by omega)
          obtain ⟨rfl, rfl⟩ : b0 = b1 ∧ off = off1 := by cases hA; exact ⟨rfl, rfl⟩
          clear hA hb2
          rw [← Nat.add_assoc] at d1
          have Hy := hide hy; clear hy
          have Hl : Hid (l[j]? = some y) := by have := Hy.out; rw [Hb.out, Nat.add_comm, List.getElem?_cons_succ] at this; exact this
          go_wp2_with fail
          refine ⟨⟨j + 1, by omega, by go_num, ?_, trivial⟩, by simp [intOf]; omega⟩
          rw [num8_snoc _ _ _ Hl.out, or_byte _ _ (num8_bound _ (by rw [List.length_take]; omega))]
        · obtain rfl : j = 8 := by omega
          clear h8 hj
          go_wp2_with fail
          have hu := hide (be_num8 (l.take 8) (by rw [List.length_take]; have := hll.out; omega)).2
          rw [unbias_xor _ hu.out]
          refine bodyPost_ret (results_cell_tmp_row rfl _ _ w.heap.size 54 _ (0, 0) _ rfl (heap_alloc_new _ _) Tryd.underlying54 rfl (by kernel_rfl)) rfl ?_
          exact ⟨by have e : one b = some (⟨1, unbias (num8 (l.take 8)), ByteArray.empty⟩, 9) := by rw [Hb.out, H1.out]; simp only [one, if_true]; rw [if_neg (by have := hll.out; omega)]
                    rw [oneRes, e]; rfl, Ext.alloc _ _⟩
  · have hx0 : (wrap64 (x.toNat : Int) == 1) = false := by have := x.toNat_lt; rw [show wrap64 (x.toNat : Int) = x.toNat by unfold wrap64; omega]; simpa using h1
    by_cases h2 : (x.toNat : Int) = 2
    · have H1 := hide h1; have H2 := hide (show x = 2 from UInt8.toNat_inj.1 (show x.toNat = 2 by omega))
      rw [h2] at d0; clear h1 h2 hx0
      go_enter Tryd.func45, Tryd.ntmps45
      go_wp2_with fail
      go_loopw [7, 8] (fun t k w' => ∃ (i m : Nat) (A' : Option Addr) (c' : Nat) (acc : List UInt8), 1 ≤ i ∧ i ≤ n ∧ k = .int .i64 i ∧ t = .slice A' m c' ∧ m ≤ i ∧ Hid (OwnB w w' A' m c' acc) ∧ Hid (Ext w w') ∧ Hid (Blk w' w.heap.size 54 #[.int .i64 0, .int .i64 0, .string ⟨#[]⟩]) ∧ Hid (scanT l = (scanT (b.drop i)).map fun p => (acc ++ p.1, p.2 + (i - 1)))) (fun _ k _ => n - (intOf k).toNat)
      case atStart =>
        refine ⟨1, 0, none, 0, [], by omega, by omega, rfl, rfl, by omega, ⟨rfl, ownsNilB _ _⟩, Ext.alloc _ _, Blk.new _ _ _, ?_⟩
        show scanT l = _
        rw [Hb.out]; simp only [List.drop_succ_cons, List.drop_zero]
        cases scanT l <;> simp
      case round =>
        obtain ⟨i, m, A', c', acc, hi1, hin, rfl, rfl, hmi, ho, hw, hB, hS⟩ := hrel
        have FAIL : Hid (scanT l = none ∨ ∃ p, scanT l = some p ∧ 64 < p.1.length) → oneRes b = (⟨0, 0, ByteArray.empty⟩, 0) := by
          intro h
          have e : one b = none := by
            rw [Hb.out, H2.out]; simp only [one]
            rw [if_neg (by decide), if_pos (by trivial)]
            rcases h.out with h | ⟨p, h, h3⟩
            · rw [h]
            · rw [h]; exact if_pos h3
          rw [oneRes, e]; rfl
        by_cases h : i < n
        · obtain ⟨b1, off1, y, hA, hy, hb2, d1⟩ := (Ha.out.ext hw.out).get (i := i) h
          obtain ⟨rfl, rfl⟩ : b0 = b1 ∧ off = off1 := by cases hA; exact ⟨rfl, rfl⟩
          clear hA hb2
          have hdr := hide (drop_get hy); clear hy
          have hi0 : (0 : Int) ≤ (i : Int) := by omega
          have hi2 : (i : Int) < (n : Int) := by omega
          by_cases hy0 : (y.toNat : Int) = 0
          · have Hy := hide (show y = 0 from UInt8.toNat_inj.1 (show y.toNat = 0 by omega))
            rw [hy0] at d1; clear hy0
            by_cases hi3 : i + 1 < n
            · obtain ⟨b1, off1, z, hA, hz, hb2, d2⟩ := (Ha.out.ext hw.out).get (i := i + 1) hi3
              obtain ⟨rfl, rfl⟩ : b0 = b1 ∧ off = off1 := by cases hA; exact ⟨rfl, rfl⟩
              clear hA hb2
              have hdr2 := hide (drop_get hz); clear hz
              have hi4 : (0 : Int) ≤ (i : Int) + 1 := by omega
              have hi5 : (i : Int) + 1 < (n : Int) := by omega
              have hi6 : ¬ (i : Int) + 1 = (n : Int) := by omega
              by_cases hz0 : (z.toNat : Int) = 0
              · have Hz := hide (show z = 0 from UInt8.toNat_inj.1 (show z.toNat = 0 by omega))
                rw [hz0] at d2; clear hz0
                have hS2 : Hid (scanT l = some (acc, i + 1)) := by
                  show scanT l = _
                  rw [hS.out, hdr.out, hdr2.out, Hy.out, Hz.out]
                  simp [scanT]; omega
                by_cases hm : 64 < m
                · have HF : Hid (scanT l = none ∨ ∃ p, scanT l = some p ∧ 64 < p.1.length) := .inr ⟨_, hS2.out, by have := ho.out.1; show 64 < acc.length; omega⟩
                  go_wp2_with ((with_reducible refine at_stor ?_); refine wpList_store_row rfl _ (.tmp 2) (.tmp 92) rfl w.heap.size _ rfl rfl 54 _ hB.out (by kernel_rfl) rfl (by simp [Value.oneCell']) ?_)

                  refine bodyPost_ret (results_cell_tmp_row rfl _ _ w.heap.size 54 _ (0, 0) _ rfl (setRow_heap _ _ _ _ _ _ hB.out) Tryd.underlying54 rfl (by kernel_rfl)) rfl ?_
                  exact ⟨by rw [FAIL HF]; rfl, below_setRow hw.out (Nat.le_refl _) _⟩
                · have Bs := hide (run_bytes_str (c := c') (src := 38) (dst := 9) Tryd.underlying38 Tryd.underlying5 Tryd.underlying9 (Sl.own ho.out.2))
                  go_wp2_with (first | ((with_reducible refine at_conv ?_); refine wpList_val rfl _ (exec_convg rfl Bs.out) ?_) | ((with_reducible refine at_stor ?_); refine wpList_store_row rfl _ (.tmp 2) (.tmp 86) rfl w.heap.size _ rfl rfl 54 _ hB.out (by kernel_rfl) rfl (by simp [Value.oneCell']) ?_))
                  refine bodyPost_ret (results_cell_tmp_row rfl _ _ w.heap.size 54 _ (0, 0) _ rfl (setRow_heap _ _ _ _ _ _ hB.out) Tryd.underlying54 rfl (by kernel_rfl)) rfl ?_
                  have e : one b = some (⟨2, 0, ⟨acc.toArray⟩⟩, i + 2) := by
                    rw [Hb.out, H2.out]; simp only [one]
                    rw [if_neg (by decide), if_pos (by trivial), hS2.out]
                    exact if_neg (by have := ho.out.1; omega)
                  exact ⟨by rw [oneRes, e]; rfl, below_setRow hw.out (Nat.le_refl _) _⟩
              · by_cases hz1 : (z.toNat : Int) = 255
                · have Hz := hide (show z = 255 from UInt8.toNat_inj.1 (show z.toNat = 255 by omega))
                  rw [hz1] at d2; clear hz0 hz1
                  have hs1 := hide (bytes_lit wr [0] 5 wr.heap.size rfl)
                  go_wp2_with (at_builtin; refine app_bytes rfl (.tmp 89) (.tmp 90) rfl w (hw.out.trans (Ext.alloc _ _)) _ m _ _ rfl ⟨ho.out.1, ho.out.2.alloc _⟩ _ 1 1 [0] rfl hs1.out (by omega) ?_; intro A4 c4 w4 own4 E4 K4; have B4 := hide (K4.out _ _ _ (hB.out.ext (Ext.alloc _ _)) (by decide)); clear K4)
                  go_roundw
                  case rel =>
                    refine ⟨i + 2, m + 1, A4, c4, acc ++ [0], by omega, by omega, by go_num, rfl, by omega, own4.out, E4.out, B4.out, ?_⟩
                    show scanT l = _
                    rw [hS.out, hdr.out, hdr2.out, Hy.out, Hz.out]
                    simp only [scanT, if_true]
                    rw [if_neg (by decide)]
                    cases scanT (b.drop (i + 2)) with
                    | none => rfl
                    | some p => simp; omega
                  case measure => simp [intOf]; omega
                · have Hz0 := hide (show ¬ z = 0 from fun e => hz0 (by rw [e]; rfl)); have Hz1 := hide (show ¬ z = 255 from fun e => hz1 (by rw [e]; rfl))
                  have hq0 : ((z.toNat : Int) != 0) = true := by simpa using hz0
                  have hq1 : ((z.toNat : Int) != 255) = true := by simpa using hz1
                  have HF : Hid (scanT l = none ∨ ∃ p, scanT l = some p ∧ 64 < p.1.length) := .inl (by rw [hS.out, hdr.out, hdr2.out, Hy.out]; simp [scanT, Hz0.out, Hz1.out])
                  go_wp2_with ((with_reducible refine at_stor ?_); refine wpList_store_row rfl _ (.tmp 2) (.tmp 92) rfl w.heap.size _ rfl rfl 54 _ hB.out (by kernel_rfl) rfl (by simp [Value.oneCell']) ?_)
                  refine bodyPost_ret (results_cell_tmp_row rfl _ _ w.heap.size 54 _ (0, 0) _ rfl (setRow_heap _ _ _ _ _ _ hB.out) Tryd.underlying54 rfl (by kernel_rfl)) rfl ?_
                  exact ⟨by rw [FAIL HF]; rfl, below_setRow hw.out (Nat.le_refl _) _⟩
            · have hi4 : (i : Int) + 1 = (n : Int) := by omega
              have HF : Hid (scanT l = none ∨ ∃ p, scanT l = some p ∧ 64 < p.1.length) := .inl (by rw [hS.out, hdr.out, List.drop_of_length_le (by have := hl.out; omega)]; simp [scanT])
              go_wp2_with ((with_reducible refine at_stor ?_); refine wpList_store_row rfl _ (.tmp 2) (.tmp 92) rfl w.heap.size _ rfl rfl 54 _ hB.out (by kernel_rfl) rfl (by simp [Value.oneCell']) ?_)
              refine bodyPost_ret (results_cell_tmp_row rfl _ _ w.heap.size 54 _ (0, 0) _ rfl (setRow_heap _ _ _ _ _ _ hB.out) Tryd.underlying54 rfl (by kernel_rfl)) rfl ?_
              exact ⟨by rw [FAIL HF]; rfl, below_setRow hw.out (Nat.le_refl _) _⟩
          · have Hy := hide (show ¬ y = 0 from fun e => hy0 (by rw [e]; rfl))
            have hs1 := hide (bytes_lit wr [y] 5 wr.heap.size rfl)
            go_wp2_with (at_builtin; refine app_bytes rfl (.tmp 49) (.tmp 54) rfl w (hw.out.trans (Ext.alloc _ _)) _ m _ _ rfl ⟨ho.out.1, ho.out.2.alloc _⟩ _ 1 1 [y] rfl hs1.out (by omega) ?_; intro A4 c4 w4 own4 E4 K4; have B4 := hide (K4.out _ _ _ (hB.out.ext (Ext.alloc _ _)) (by decide)); clear K4)
            go_roundw
            case rel =>
              refine ⟨i + 1, m + 1, A4, c4, acc ++ [y], by omega, by omega, by go_num, rfl, by omega, own4.out, E4.out, B4.out, ?_⟩
              show scanT l = _
              rw [hS.out, hdr.out, scanT_cons _ Hy.out]
              cases scanT (b.drop (i + 1)) with
              | none => rfl
              | some p => simp; omega
            case measure => simp [intOf]; omega
        · have HF : Hid (scanT l = none ∨ ∃ p, scanT l = some p ∧ 64 < p.1.length) := .inl (by rw [hS.out, List.drop_of_length_le (by have := hl.out; omega)]; simp [scanT])
          go_wp2_with ((with_reducible refine at_stor ?_); refine wpList_store_row rfl _ (.tmp 2) (.tmp 92) rfl w.heap.size _ rfl rfl 54 _ hB.out (by kernel_rfl) rfl (by simp [Value.oneCell']) ?_)
          refine bodyPost_ret (results_cell_tmp_row rfl _ _ w.heap.size 54 _ (0, 0) _ rfl (setRow_heap _ _ _ _ _ _ hB.out) Tryd.underlying54 rfl (by kernel_rfl)) rfl ?_
          exact ⟨by rw [FAIL HF]; rfl, below_setRow hw.out (Nat.le_refl _) _⟩
    · have hx1 : (wrap64 (x.toNat : Int) == 2) = false := by have := x.toNat_lt; rw [show wrap64 (x.toNat : Int) = x.toNat by unfold wrap64; omega]; simpa using h2
      have H1 := hide (show ¬ x = 1 from fun e => h1 (by rw [e]; rfl)); have H2 := hide (show ¬ x = 2 from fun e => h2 (by rw [e]; rfl))
      go_enter Tryd.func45, Tryd.ntmps45
      go_wp2_with fail
      refine bodyPost_ret (results_cell_tmp_row rfl _ _ w.heap.size 54 #[.int .i64 0, .int .i64 0, .string ⟨#[]⟩] (0, 0) _ rfl (heap_alloc_new _ _) Tryd.underlying54 rfl (by kernel_rfl)) rfl ?_
      exact ⟨by have e : one b = none := by rw [Hb.out]; simp only [one]; rw [if_neg H1.out, if_neg H2.out]
                rw [oneRes, e]; rfl, Ext.alloc _ _⟩
end Go.Proofs.YtoahckibhmoikaaDoor
