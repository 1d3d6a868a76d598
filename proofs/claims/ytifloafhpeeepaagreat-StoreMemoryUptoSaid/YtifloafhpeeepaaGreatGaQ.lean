/-
  
  
  Packs keep the order, plainly.
-/
import Derived.Test.YtifloafhpeeepaaGreatGaK
import Derived.Test.YtifloafhpeeepaaGreatGaP
import Derived.Laws.ResultCell
import Derived.Laws.Rows
import Derived.Laws.Bits64b
import Derived.Test.YtifloafhpeeepaaGreatGaO
import Derived.Test.YtifloafhpeeepaaGreatGaG
namespace Go.Proofs.YtifloafhpeeepaaGreat
open Go.RowKit

def BytesAt (w : World) (A : Option Addr) (n : Nat) (b : List UInt8) : Prop := Sl w A n 1 (bcells b)
theorem BytesAt.len {w : World} {A : Option Addr} {n : Nat} {b : List UInt8} (h : BytesAt w A n b) : n = b.length := by have := h.1; rw [bcells_len] at this; omega
theorem BytesAt.ext {w w' : World} {A : Option Addr} {n : Nat} {b : List UInt8} (h : BytesAt w A n b) (hE : Ext w w') : BytesAt w' A n b := Sl.ext h hE
theorem cell_lt {w : World} {b o : Nat} {v : Value} (h : w.cell? ⟨b, o, none⟩ = some v) : b < w.heap.size := World.block_lt_of_cell? w ⟨b, o, none⟩ h
theorem BytesAt.get {w : World} {A : Option Addr} {n : Nat} {b : List UInt8} (h : BytesAt w A n b) {i : Nat} (hi : i < n) :
    ∃ b0 off x, A = some ⟨b0, off, none⟩ ∧ b[i]? = some x ∧ b0 < w.heap.size ∧ w.cell? ⟨b0, off + i, none⟩ = some (.int .u8 (x.toNat : Int)) := by
  have hl := h.len
  obtain ⟨b0, off, hA, hc⟩ := h.2 (by omega)
  have hx : b[i]? = some b[i] := List.getElem?_eq_getElem (by omega)
  have h1 := hc i _ (show (bcells b)[i]? = some (.int .u8 (b[i].toNat : Int)) by rw [bcells, List.getElem?_map, hx]; rfl)
  exact ⟨b0, off, b[i], hA, hx, cell_lt h1, h1⟩
theorem drop_get {α : Type} {b : List α} {i : Nat} {x : α} (h : b[i]? = some x) : b.drop i = x :: b.drop (i + 1) := by
  obtain ⟨hl, rfl⟩ := List.getElem?_eq_some_iff.1 h
  exact List.drop_eq_getElem_cons hl
theorem results_cell_tmp_row {P : Program} {fn : Func} {p u : Tmp} {ty : TypeId} (h : fn.results = #[.cell p ty, .tmp u]) (tmps : Array Value) (w : World) (g : Nat) (t : TypeId) (cs : Array Value) (fr : Nat × Nat) (d : TypeDesc)
    (hp : tmps.getD p undef = .pointer (some ⟨g, 0, none⟩)) (hg : w.heap[g]? = some (.cells cs t fr))
    (hu : P.underlying ty = some d) (hd : (match d with | .struct _ | .array _ _ => true | _ => false) = true) (hi : (P.info? ty).map (·.size) = some cs.size) :
    (results fn tmps).run P w = .ok (.tuple #[.agg cs, tmps.getD u undef]) w := by
  rw [results_cell_tmp h, hp]
  simp [asAddr, run_loadVar_row w g t ty cs fr d hg hu hd hi]
theorem num8_lt (l : List UInt8) : ∀ n : Nat, l.foldl (fun n c => n * 256 + c.toNat) n < (n + 1) * 256 ^ l.length := by
  induction l with
  | nil => intro n; simp
  | cons c l ih =>
    intro n
    have h1 := ih (n * 256 + c.toNat)
    have h2 := c.toNat_lt
    have h3 : (n * 256 + c.toNat + 1) * 256 ^ l.length ≤ (n + 1) * 256 * 256 ^ l.length := Nat.mul_le_mul_right _ (by omega)
    rw [List.length_cons, Nat.pow_succ, Nat.mul_comm (256 ^ l.length) 256, ← Nat.mul_assoc]
    exact Nat.lt_of_lt_of_le h1 h3
theorem num8_bound (l : List UInt8) (h : l.length ≤ 7) : num8 l < 72057594037927936 := by
  have h1 := num8_lt l 0
  have h2 : 256 ^ l.length ≤ 256 ^ 7 := Nat.pow_le_pow_right (by omega) h
  have h3 : (256 : Nat) ^ 7 = 72057594037927936 := by decide
  have h4 : (0 + 1) * 256 ^ l.length = 256 ^ l.length := by omega
  unfold num8; omega
theorem num8_snoc (l : List UInt8) (j : Nat) (y : UInt8) (h : l[j]? = some y) : num8 (l.take (j + 1)) = num8 (l.take j) * 256 + y.toNat := by
  rw [take_snoc'' l j y h]; simp [num8]
theorem or_byte (N : Nat) (y : UInt8) (h : N < 72057594037927936) : bits .or .u64 (IntKind.u64.wrap ((N : Int) * 256)) (IntKind.u64.wrap (y.toNat : Int)) = ((N * 256 + y.toNat : Nat) : Int) := by
  have hy := y.toNat_lt
  have e1 : IntKind.u64.wrap ((N : Int) * 256) = ((N * 256 : Nat) : Int) := by rw [IntKind.wrap_u64]; omega
  have e2 : IntKind.u64.wrap (y.toNat : Int) = (y.toNat : Int) := by rw [IntKind.wrap_u64]; omega
  rw [e1, e2, bits_or_u64_nat _ _ (by omega) (by omega)]
  have h2 := Nat.two_pow_add_eq_or_of_lt (i := 8) (b := y.toNat) (by omega) N
  rw [show (2 : Nat) ^ 8 * N = N * 256 by omega] at h2
  rw [h2]
theorem unbias_xor (N : Nat) (h : N < 18446744073709551616) : wrap64 (bits .xor .u64 (N : Int) 9223372036854775808) = unbias N := by
  have h1 := bits_xor_u64_nat N 9223372036854775808 h (by omega)
  have hr : -9223372036854775808 ≤ unbias N ∧ unbias N ≤ 9223372036854775807 := by unfold unbias; omega
  have h2 := bias_xor hr
  have h3 : bias (unbias N) = N := by unfold bias unbias; omega
  rw [h3] at h2
  have h4 : N ^^^ 9223372036854775808 = wrapN (unbias N) := by
    have h5 : (wrapN (unbias N) ^^^ 9223372036854775808) ^^^ 9223372036854775808 = N ^^^ 9223372036854775808 := by rw [h2]
    rw [Nat.xor_assoc, Nat.xor_self, Nat.xor_zero] at h5
    exact h5.symm
  rw [h4] at h1
  refine (congrArg wrap64 h1).trans ?_
  unfold wrap64 wrapN unbias; omega
def oneRes (b : List UInt8) : V × Nat := (one b).getD (⟨0, 0, ByteArray.empty⟩, 0)

set_option maxRecDepth 100000 in
set_option maxHeartbeats 1000000 in
theorem unpack_one (b : List UInt8) (A : Option Addr) (n c : Nat) (w : World) (ha : BytesAt w A n b) (hn : n ≤ 1048576) (hc : n ≤ c) (h0 : 0 < n) :
    Calls Tryz.prog 92 #[.slice A n c] w fun e w' => e = .returned (.tuple #[(oneRes b).1.val, .int .i64 (oneRes b).2]) ∧ Ext w w' := by
  have Ha := hide ha; have hl := hide ha.len; clear ha
  obtain ⟨b0, off, x, rfl, hx, hb1, d0⟩ := Ha.out.get h0
  obtain ⟨l, Hb⟩ : ∃ l, Hid (b = x :: l) := by
    cases b with
    | nil => simp at hx
    | cons y l => exact ⟨l, by simp at hx; rw [hx]; rfl⟩
  clear hx
  rw [Nat.add_zero] at d0
  have D0 := hide d0
  have hll := hide (show l.length + 1 = n by have := hl.out; rw [Hb.out] at this; simp at this; omega)
  by_cases h1 : (x.toNat : Int) = 1
  · have H1 := hide (show x = 1 from UInt8.toNat_inj.1 (show x.toNat = 1 by omega))
    rw [h1] at d0; clear h1
    by_cases h9 : n < 9
    · go_enter Tryz.func92, Tryz.ntmps92
      go_wp2_with fail
      refine bodyPost_ret (results_cell_tmp_row rfl _ _ w.heap.size 43 #[.int .i64 0, .int .i64 0, .string ⟨#[]⟩] (0, 0) _ rfl (heap_alloc_new _ _) Tryz.underlying43 rfl (by kernel_rfl)) rfl ?_
      exact ⟨by have e : one b = none := by rw [Hb.out, H1.out]; simp only [one, if_true]; rw [if_pos (by have := hll.out; omega)]
                rw [oneRes, e]; rfl, Ext.alloc _ _⟩
    · go_enter Tryz.func92, Tryz.ntmps92
      go_wp2_with fail
      go_loopw [4, 6, 22] (fun v _ k w' => ∃ j : Nat, j ≤ 8 ∧ k = .int .i64 j ∧ v = .int .u64 ((num8 (l.take j) : Nat) : Int) ∧ w' = w.alloc (.cells #[.int .i64 0, .int .i64 0, .string ⟨#[]⟩] 43)) (fun _ _ k _ => 8 - (intOf k).toNat)
      case atStart => exact ⟨0, by omega, rfl, rfl, rfl⟩
      case round =>
        obtain ⟨j, hj, rfl, rfl, rfl⟩ := hrel
        by_cases h8 : j < 8
        · obtain ⟨b1, off1, y, hA, hy, hb2, d1⟩ := Ha.out.get (i := 1 + j) (by omega)
          obtain ⟨rfl, rfl⟩ : b0 = b1 ∧ off = off1 := by cases hA; exact ⟨rfl, rfl⟩
          clear hA hb2
          rw [← Nat.add_assoc] at d1
          have Hy := hide hy; clear hy
          have Hl : Hid (l[j]? = some y) := by have := Hy.out; rw [Hb.out, Nat.add_comm, List.getElem?_cons_succ] at this; exact this
          go_wp2_with fail
          refine ⟨⟨j + 1, by omega, by go_num, ?_, trivial⟩, by simp [intOf]; omega⟩
          rw [num8_snoc _ _ _ Hl.out, or_byte _ _ (num8_bound _ (by rw [List.length_take]; omega))]
        · obtain rfl : j = 8 := by omega
          clear h8 hj
          go_wp2_with fail
          have hu := hide (be_num8 (l.take 8) (by rw [List.length_take]; have := hll.out; omega)).2
          rw [unbias_xor _ hu.out]
          refine bodyPost_ret (results_cell_tmp_row rfl _ _ w.heap.size 43 _ (0, 0) _ rfl (heap_alloc_new _ _) Tryz.underlying43 rfl (by kernel_rfl)) rfl ?_
          exact ⟨by have e : one b = some (⟨1, unbias (num8 (l.take 8)), ByteArray.empty⟩, 9) := by rw [Hb.out, H1.out]; simp only [one, if_true]; rw [if_neg (by have := hll.out; omega)]
                    rw [oneRes, e]; rfl, Ext.alloc _ _⟩
  · have hx0 : (wrap64 (x.toNat : Int) == 1) = false := by have := x.toNat_lt; rw [show wrap64 (x.toNat : Int) = x.toNat by unfold wrap64; omega]; simpa using h1
    by_cases h2 : (x.toNat : Int) = 2
    · have H1 := hide h1; have H2 := hide (show x = 2 from UInt8.toNat_inj.1 (show x.toNat = 2 by omega))
      rw [h2] at d0; clear h1 h2 hx0
      go_enter Tryz.func92, Tryz.ntmps92
      go_wp2_with fail
      go_loopw [7, 8] (fun t k w' => ∃ (i m : Nat) (A' : Option Addr) (c' : Nat) (acc : List UInt8), 1 ≤ i ∧ i ≤ n ∧ k = .int .i64 i ∧ t = .slice A' m c' ∧ m ≤ i ∧ Hid (OwnB w w' A' m c' acc) ∧ Hid (Ext w w') ∧ Hid (Blk w' w.heap.size 43 #[.int .i64 0, .int .i64 0, .string ⟨#[]⟩]) ∧ Hid (scanT l = (scanT (b.drop i)).map fun p => (acc ++ p.1, p.2 + (i - 1)))) (fun _ k _ => n - (intOf k).toNat)
      case atStart =>
        refine ⟨1, 0, none, 0, [], by omega, by omega, rfl, rfl, by omega, ⟨rfl, ownsNilB _ _⟩, Ext.alloc _ _, Blk.new _ _ _, ?_⟩
        show scanT l = _
        rw [Hb.out]; simp only [List.drop_succ_cons, List.drop_zero]
        cases scanT l <;> simp
      case round =>
        obtain ⟨i, m, A', c', acc, hi1, hin, rfl, rfl, hmi, ho, hw, hB, hS⟩ := hrel
        have FAIL : Hid (scanT l = none ∨ ∃ p, scanT l = some p ∧ 64 < p.1.length) → oneRes b = (⟨0, 0, ByteArray.empty⟩, 0) := by
          intro h
          have e : one b = none := by
            rw [Hb.out, H2.out]; simp only [one]
            rw [if_neg (by decide), if_pos (by trivial)]
            rcases h.out with h | ⟨p, h, h3⟩
            · rw [h]
            · rw [h]; exact if_pos h3
          rw [oneRes, e]; rfl
        by_cases h : i < n
        · obtain ⟨b1, off1, y, hA, hy, hb2, d1⟩ := (Ha.out.ext hw.out).get (i := i) h
          obtain ⟨rfl, rfl⟩ : b0 = b1 ∧ off = off1 := by cases hA; exact ⟨rfl, rfl⟩
          clear hA hb2
          have hdr := hide (drop_get hy); clear hy
          have hi0 : (0 : Int) ≤ (i : Int) := by omega
          have hi2 : (i : Int) < (n : Int) := by omega
          by_cases hy0 : (y.toNat : Int) = 0
          · have Hy := hide (show y = 0 from UInt8.toNat_inj.1 (show y.toNat = 0 by omega))
            rw [hy0] at d1; clear hy0
            by_cases hi3 : i + 1 < n
            · obtain ⟨b1, off1, z, hA, hz, hb2, d2⟩ := (Ha.out.ext hw.out).get (i := i + 1) hi3
              obtain ⟨rfl, rfl⟩ : b0 = b1 ∧ off = off1 := by cases hA; exact ⟨rfl, rfl⟩
              clear hA hb2
              have hdr2 := hide (drop_get hz); clear hz
              have hi4 : (0 : Int) ≤ (i : Int) + 1 := by omega
              have hi5 : (i : Int) + 1 < (n : Int) := by omega
              have hi6 : ¬ (i : Int) + 1 = (n : Int) := by omega
              by_cases hz0 : (z.toNat : Int) = 0
              · have Hz := hide (show z = 0 from UInt8.toNat_inj.1 (show z.toNat = 0 by omega))
                rw [hz0] at d2; clear hz0
                have hS2 : Hid (scanT l = some (acc, i + 1)) := by
                  show scanT l = _
                  rw [hS.out, hdr.out, hdr2.out, Hy.out, Hz.out]
                  simp [scanT]; omega
                by_cases hm : 64 < m
                · have HF : Hid (scanT l = none ∨ ∃ p, scanT l = some p ∧ 64 < p.1.length) := .inr ⟨_, hS2.out, by have := ho.out.1; show 64 < acc.length; omega⟩
                  go_wp2_with ((with_reducible refine at_stor ?_); refine wpList_store_row rfl _ (.tmp 2) (.tmp 92) rfl w.heap.size _ rfl rfl 43 _ hB.out (by kernel_rfl) rfl (by simp [Value.oneCell']) ?_)

                  refine bodyPost_ret (results_cell_tmp_row rfl _ _ w.heap.size 43 _ (0, 0) _ rfl (setRow_heap _ _ _ _ _ _ hB.out) Tryz.underlying43 rfl (by kernel_rfl)) rfl ?_
                  exact ⟨by rw [FAIL HF]; rfl, below_setRow hw.out (Nat.le_refl _) _⟩
                · have Bs := hide (run_bytes_str (c := c') (src := 88) (dst := 9) Tryz.underlying88 Tryz.underlying5 Tryz.underlying9 (Sl.own ho.out.2))
                  go_wp2_with (first | ((with_reducible refine at_conv ?_); refine wpList_val rfl _ (exec_convg rfl Bs.out) ?_) | ((with_reducible refine at_stor ?_); refine wpList_store_row rfl _ (.tmp 2) (.tmp 86) rfl w.heap.size _ rfl rfl 43 _ hB.out (by kernel_rfl) rfl (by simp [Value.oneCell']) ?_))
                  refine bodyPost_ret (results_cell_tmp_row rfl _ _ w.heap.size 43 _ (0, 0) _ rfl (setRow_heap _ _ _ _ _ _ hB.out) Tryz.underlying43 rfl (by kernel_rfl)) rfl ?_
                  have e : one b = some (⟨2, 0, ⟨acc.toArray⟩⟩, i + 2) := by
                    rw [Hb.out, H2.out]; simp only [one]
                    rw [if_neg (by decide), if_pos (by trivial), hS2.out]
                    exact if_neg (by have := ho.out.1; omega)
                  exact ⟨by rw [oneRes, e]; rfl, below_setRow hw.out (Nat.le_refl _) _⟩
              · by_cases hz1 : (z.toNat : Int) = 255
                · have Hz := hide (show z = 255 from UInt8.toNat_inj.1 (show z.toNat = 255 by omega))
                  rw [hz1] at d2; clear hz0 hz1
                  have hs1 := hide (bytes_lit wr [0] 5 wr.heap.size rfl)
                  go_wp2_with (at_builtin; refine app_bytes rfl (.tmp 89) (.tmp 90) rfl w (hw.out.trans (Ext.alloc _ _)) _ m _ _ rfl ⟨ho.out.1, ho.out.2.alloc _⟩ _ 1 1 [0] rfl hs1.out (by omega) ?_; intro A4 c4 w4 own4 E4 K4; have B4 := hide (K4.out _ _ _ (hB.out.ext (Ext.alloc _ _)) (by decide)); clear K4)
                  go_roundw
                  case rel =>
                    refine ⟨i + 2, m + 1, A4, c4, acc ++ [0], by omega, by omega, by go_num, rfl, by omega, own4.out, E4.out, B4.out, ?_⟩
                    show scanT l = _
                    rw [hS.out, hdr.out, hdr2.out, Hy.out, Hz.out]
                    simp only [scanT, if_true]
                    rw [if_neg (by decide)]
                    cases scanT (b.drop (i + 2)) with
                    | none => rfl
                    | some p => simp; omega
                  case measure => simp [intOf]; omega
                · have Hz0 := hide (show ¬ z = 0 from fun e => hz0 (by rw [e]; rfl)); have Hz1 := hide (show ¬ z = 255 from fun e => hz1 (by rw [e]; rfl))
                  have hq0 : ((z.toNat : Int) != 0) = true := by simpa using hz0
                  have hq1 : ((z.toNat : Int) != 255) = true := by simpa using hz1
                  have HF : Hid (scanT l = none ∨ ∃ p, scanT l = some p ∧ 64 < p.1.length) := .inl (by rw [hS.out, hdr.out, hdr2.out, Hy.out]; simp [scanT, Hz0.out, Hz1.out])
                  go_wp2_with ((with_reducible refine at_stor ?_); refine wpList_store_row rfl _ (.tmp 2) (.tmp 92) rfl w.heap.size _ rfl rfl 43 _ hB.out (by kernel_rfl) rfl (by simp [Value.oneCell']) ?_)
                  refine bodyPost_ret (results_cell_tmp_row rfl _ _ w.heap.size 43 _ (0, 0) _ rfl (setRow_heap _ _ _ _ _ _ hB.out) Tryz.underlying43 rfl (by kernel_rfl)) rfl ?_
                  exact ⟨by rw [FAIL HF]; rfl, below_setRow hw.out (Nat.le_refl _) _⟩
            · have hi4 : (i : Int) + 1 = (n : Int) := by omega
              have HF : Hid (scanT l = none ∨ ∃ p, scanT l = some p ∧ 64 < p.1.length) := .inl (by rw [hS.out, hdr.out, List.drop_of_length_le (by have := hl.out; omega)]; simp [scanT])
              go_wp2_with ((with_reducible refine at_stor ?_); refine wpList_store_row rfl _ (.tmp 2) (.tmp 92) rfl w.heap.size _ rfl rfl 43 _ hB.out (by kernel_rfl) rfl (by simp [Value.oneCell']) ?_)
              refine bodyPost_ret (results_cell_tmp_row rfl _ _ w.heap.size 43 _ (0, 0) _ rfl (setRow_heap _ _ _ _ _ _ hB.out) Tryz.underlying43 rfl (by kernel_rfl)) rfl ?_
              exact ⟨by rw [FAIL HF]; rfl, below_setRow hw.out (Nat.le_refl _) _⟩
          · have Hy := hide (show ¬ y = 0 from fun e => hy0 (by rw [e]; rfl))
            have hs1 := hide (bytes_lit wr [y] 5 wr.heap.size rfl)
            go_wp2_with (at_builtin; refine app_bytes rfl (.tmp 49) (.tmp 54) rfl w (hw.out.trans (Ext.alloc _ _)) _ m _ _ rfl ⟨ho.out.1, ho.out.2.alloc _⟩ _ 1 1 [y] rfl hs1.out (by omega) ?_; intro A4 c4 w4 own4 E4 K4; have B4 := hide (K4.out _ _ _ (hB.out.ext (Ext.alloc _ _)) (by decide)); clear K4)
            go_roundw
            case rel =>
              refine ⟨i + 1, m + 1, A4, c4, acc ++ [y], by omega, by omega, by go_num, rfl, by omega, own4.out, E4.out, B4.out, ?_⟩
              show scanT l = _
              rw [hS.out, hdr.out, scanT_cons _ Hy.out]
              cases scanT (b.drop (i + 1)) with
              | none => rfl
              | some p => simp; omega
            case measure => simp [intOf]; omega
        · have HF : Hid (scanT l = none ∨ ∃ p, scanT l = some p ∧ 64 < p.1.length) := .inl (by rw [hS.out, List.drop_of_length_le (by have := hl.out; omega)]; simp [scanT])
          go_wp2_with ((with_reducible refine at_stor ?_); refine wpList_store_row rfl _ (.tmp 2) (.tmp 92) rfl w.heap.size _ rfl rfl 43 _ hB.out (by kernel_rfl) rfl (by simp [Value.oneCell']) ?_)
          refine bodyPost_ret (results_cell_tmp_row rfl _ _ w.heap.size 43 _ (0, 0) _ rfl (setRow_heap _ _ _ _ _ _ hB.out) Tryz.underlying43 rfl (by kernel_rfl)) rfl ?_
          exact ⟨by rw [FAIL HF]; rfl, below_setRow hw.out (Nat.le_refl _) _⟩
    · have hx1 : (wrap64 (x.toNat : Int) == 2) = false := by have := x.toNat_lt; rw [show wrap64 (x.toNat : Int) = x.toNat by unfold wrap64; omega]; simpa using h2
      have H1 := hide (show ¬ x = 1 from fun e => h1 (by rw [e]; rfl)); have H2 := hide (show ¬ x = 2 from fun e => h2 (by rw [e]; rfl))
      go_enter Tryz.func92, Tryz.ntmps92
      go_wp2_with fail
      refine bodyPost_ret (results_cell_tmp_row rfl _ _ w.heap.size 43 #[.int .i64 0, .int .i64 0, .string ⟨#[]⟩] (0, 0) _ rfl (heap_alloc_new _ _) Tryz.underlying43 rfl (by kernel_rfl)) rfl ?_
      exact ⟨by have e : one b = none := by rw [Hb.out]; simp only [one]; rw [if_neg H1.out, if_neg H2.out]
                rw [oneRes, e]; rfl, Ext.alloc _ _⟩
end Go.Proofs.YtifloafhpeeepaaGreat

namespace Go.Proofs.YtifloafhpeeepaaGreat
open Go.RowKit

def OwnR (w0 w : World) (A : Option Addr) (n c : Nat) (l : List V) : Prop := n = l.length ∧ w.ownsRow w0.heap.size 43 3 (.slice A n c) n (cellsR l)
theorem app_row {w : World} {ops : Array Oper} {rest : List Oper} {o : Oper} {a : Act} {Q : Exit → Act → World → Prop} (hgd : o.guard = none) (s x : Operand)
    (ho : o.op = .call { callee := .builtin .append, args := #[s, x], argTypes := #[30, 30] })
    (w0 : World) (hE : Ext w0 w) (A : Option Addr) (n c : Nat) (l : List V) (hs : a.eval s = .slice A n c) (hown : OwnR w0 w A n c l)
    (A2 : Option Addr) (m c2 : Nat) (news : List V) (hx : a.eval x = .slice A2 m c2) (hr : Sl w A2 m 3 (cellsR news)) (hm : n + m ≤ 1048576)
    (h : ∀ A' c' w', Hid (OwnR w0 w' A' (n + m) c' (l ++ news)) → Hid (Ext w0 w') → Hid (w.grownBy w' (Value.slice A n c).ownBlock) → wpList Tryz.prog ops Q rest (a.put o.dst (.slice A' (n + m) c')) w') : wpList Tryz.prog ops Q (o :: rest) a w := by
  obtain ⟨i0, hi0, hz0, hz1, hz2⟩ := info_parts infoV
  refine wpList_append_sl hgd s x _ ho 43 i0 _ 3 32 Tryz.underlying30 hi0 hz0 hz1 hz2 rfl (by omega) w0 hE _ n (cellsR l) hs hown.2 A2 m c2 (cellsR news) hx hr (cellsR_one _) (by unfold maxLen; omega) (by omega) ?_
  intro A' c' w' h1 h2 h3 _
  refine h A' c' w' ⟨?_, by rw [cellsR_append]; exact h1.out⟩ h2 h3
  have := hr.1; rw [cellsR_len] at this
  rw [List.length_append, ← hown.1]; omega
theorem OwnR.alloc {w0 w : World} {A : Option Addr} {n c : Nat} {l : List V} (h : OwnR w0 w A n c l) (o : Obj) : OwnR w0 (w.alloc o) A n c l := ⟨h.1, h.2.alloc o⟩
theorem OwnB.alloc {w0 w : World} {A : Option Addr} {n c : Nat} {l : List UInt8} (h : OwnB w0 w A n c l) (o : Obj) : OwnB w0 (w.alloc o) A n c l := ⟨h.1, h.2.alloc o⟩
theorem own_ext {w w' : World} {base size n : Nat} {e : TypeId} {v : Value} {xs : List Value} (h : w.ownsRow base e size v n xs) (hE : Ext w w') : w'.ownsRow base e size v n xs := by
  refine ⟨h.1, ?_⟩
  rcases h.2 with h0 | ⟨g, cap, cur, hv, hbs, hh, hr⟩
  · exact .inl h0
  · exact .inr ⟨g, cap, cur, hv, hbs, Blk.ext (cs := cur) hh hE, hr⟩
theorem OwnR.ext {w0 w w' : World} {A : Option Addr} {n c : Nat} {l : List V} (h : OwnR w0 w A n c l) (hE : Ext w w') : OwnR w0 w' A n c l := ⟨h.1, own_ext h.2 hE⟩
theorem OwnB.ext {w0 w w' : World} {A : Option Addr} {n c : Nat} {l : List UInt8} (h : OwnB w0 w A n c l) (hE : Ext w w') : OwnB w0 w' A n c l := ⟨h.1, own_ext h.2 hE⟩
theorem row_lit (w : World) (l : List V) (t : TypeId) (g : Nat) (hg : w.heap.size = g) : Sl (w.alloc (.cells (cellsR l).toArray t)) (some ⟨g, 0, none⟩) l.length 3 (cellsR l) := by
  subst hg; exact (RowAt.lit w l t).2
def lenU : Value → Nat
  | .slice _ n _ => n
  | _ => 0
theorem one_step (b : List UInt8) (v : V) (n : Nat) (k : Nat) (h : one b = some (v, n)) (hb : b ≠ []) : decGo (k + 1) b = (decGo k (b.drop n)).map (v :: ·) := by
  cases b with
  | nil => exact absurd rfl hb
  | cons x l => simp only [decGo, h]
theorem none_step (b : List UInt8) (k : Nat) (h : one b = none) (hb : b ≠ []) : decGo k b = none := by
  cases b with
  | nil => exact absurd rfl hb
  | cons x l => cases k <;> simp only [decGo, h]
theorem zero_step (b : List UInt8) (hb : b ≠ []) : decGo 0 b = none := by
  cases b with
  | nil => exact absurd rfl hb
  | cons x l => rfl
theorem BytesAt.drop {w : World} {b0 off n : Nat} {b : List UInt8} (h : BytesAt w (some ⟨b0, off, none⟩) n b) (k : Nat) (hk : k ≤ n) : BytesAt w (some ⟨b0, off + k, none⟩) (n - k) (b.drop k) := by
  have hl := h.len
  refine ⟨by rw [bcells_len, List.length_drop]; omega, fun hn => ⟨b0, off + k, rfl, fun j u hu => ?_⟩⟩
  obtain ⟨b1, off1, hA, hc⟩ := h.2 (by omega)
  cases hA
  rw [Nat.add_assoc]
  refine hc (k + j) u ?_
  rw [bcells, List.map_drop, List.getElem?_drop] at hu
  exact hu

set_option maxRecDepth 100000 in
set_option maxHeartbeats 1000000 in
theorem row_unpack (b : List UInt8) (A : Option Addr) (n c : Nat) (w : World) (ha : BytesAt w A n b) (hn : n ≤ 1048576) (hc : n ≤ c) :
    Calls Tryz.prog 49 #[.slice A n c] w (RetRowErr w 43 (decR b)) := by
  have Ha := hide ha; clear ha
  go_enter Tryz.func49, Tryz.ntmps49
  go_wp2_with fail
  go_loopw [0, 4] (fun bb rr w' => ∃ (q cb m : Nat) (Ab A' : Option Addr) (c' : Nat) (bq : List UInt8) (r : List V), q ≤ n ∧ q ≤ cb ∧ bb = .slice Ab q cb ∧ rr = .slice A' m c' ∧ m ≤ 30 ∧ Hid (BytesAt w Ab q bq) ∧ Hid (OwnR w w' A' m c' r) ∧ Hid (Ext w w') ∧ Hid (decGo 30 b = (decGo (30 - m) bq).map (r ++ ·))) (fun bb _ _ => lenU bb)
  case atStart => exact ⟨n, c, 0, A, none, 0, b, [], by omega, hc, rfl, rfl, by omega, Ha.out, ⟨rfl, ownsNil _ _ _⟩, Ext.refl _, by show _ = _; cases decGo 30 b <;> rfl⟩
  case round =>
    obtain ⟨q, cb, m, Ab, A', c', bq, r, hqn, hqc, rfl, rfl, hm, hb, ho, hw, hD⟩ := hrel
    by_cases hq : 0 < q
    · have hbl := hide hb.out.len
      have hne := hide (show bq ≠ [] from fun e => by rw [e] at hbl; have := hbl.out; simp at this; omega)
      have HU := hide (unpack_one bq Ab q cb wr (hb.out.ext hw.out) (by omega) hqc hq)
      obtain ⟨b0, off, _, rfl, _, _, _⟩ := hb.out.get hq
      cases ho1 : one bq with
      | none =>
        have e : oneRes bq = (⟨0, 0, ByteArray.empty⟩, 0) := by rw [oneRes, ho1]; rfl
        have hdn : Hid (decR b = ([], 22)) := by
          have h1 := hD.out
          rw [none_step bq _ ho1 hne.out] at h1
          show decR b = _
          rw [decR, h1]; rfl
        rw [e] at HU
        clear e ho1
        go_wp2_with fail
        refine HU.out.mono ?_
        rintro e w1 ⟨rfl, h1⟩
        have E1 := hide (hw.out.trans h1); clear h1
        simp only [V.val]
        go_wp2_with fail
        go_ret2
        exact ⟨none, 0, by rw [hdn.out]; rfl, by rw [hdn.out]; exact ownsNil _ _ _, E1.out.trans (Ext.alloc _ _)⟩
      | some p =>
        obtain ⟨v, nn⟩ := p
        have e : oneRes bq = (v, nn) := by rw [oneRes, ho1]; rfl
        rw [e] at HU
        obtain ⟨p1, p2, p3, p4, p5⟩ := one_back bq v nn ho1
        have hnn : nn ≤ q := by have := hbl.out; omega
        have hst := fun k => hide (one_step bq v nn k ho1 hne.out)
        clear e ho1 p1 p2 p3 p4
        obtain ⟨vk, vi, vt⟩ := v
        by_cases h30 : m = 30
        · subst h30
          have hdn : Hid (decR b = ([], 22)) := by
            have h1 := hD.out
            rw [show 30 - 30 = 0 from rfl, zero_step bq hne.out] at h1
            show decR b = _
            rw [decR, h1]; rfl
          go_wp2_with fail
          refine HU.out.mono ?_
          rintro e w1 ⟨rfl, h1⟩
          have E1 := hide (hw.out.trans h1); clear h1
          simp only [V.val]
          go_wp2_with fail
          go_ret2
          exact ⟨none, 0, by rw [hdn.out]; rfl, by rw [hdn.out]; exact ownsNil _ _ _, E1.out.trans (Ext.alloc _ _)⟩
        · have hnm : ((m : Int) == 30) = false := by simp; omega
          have hn0 : ((nn : Int) == 0) = false := by simp; omega
          go_wp2_with fail
          refine HU.out.mono ?_
          rintro e w1 ⟨rfl, h1⟩
          have E1 := hide (hw.out.trans h1)
          have ho1 := hide ((ho.out.ext h1).alloc (.cells #[.int .i64 vk, .int .i64 vi, .string vt] 43))
          clear h1 ho
          have hs1 := hide (row_lit (w1.alloc (.cells #[.int .i64 vk, .int .i64 vi, .string vt] 43)) [⟨vk, vi, vt⟩] 43 (w1.heap.size + 1) (alloc_size _ _))
          simp only [V.val]
          have hnn0 : (0 : Int) ≤ (nn : Int) := by omega
          have hnnq : (nn : Int) ≤ (q : Int) := by omega
          go_wp2_with (at_builtin; refine app_row rfl (.tmp 22) (.tmp 24) rfl w ((E1.out.trans (Ext.alloc _ _)).trans (Ext.alloc _ _)) _ m _ r rfl (ho1.out.alloc _) _ 1 1 [⟨vk, vi, vt⟩] rfl hs1.out (by omega) ?_; intro A4 c4 w4 own4 E4 _)
          go_roundw
          case rel =>
            have hb' : BytesAt w (if cb = nn then some ⟨b0, off, none⟩ else some ⟨b0, off + nn, none⟩) (q - nn) (bq.drop nn) := by
              split
              · have e0 : q - nn = 0 := by omega
                have h1 := (hb.out.drop nn hnn).1
                rw [e0] at h1 ⊢
                exact ⟨h1, fun h => absurd h (by omega)⟩
              · exact hb.out.drop nn hnn
            refine ⟨q - nn, cb - nn, m + 1, _, A4, c4, bq.drop nn, r ++ [(⟨vk, vi, vt⟩ : V)], by omega, by omega, rfl, rfl, by omega, hb', own4.out, E4.out, ?_⟩
            show _ = _
            rw [hD.out, show 30 - m = (30 - (m + 1)) + 1 by omega, (hst _).out]
            cases decGo (30 - (m + 1)) (bq.drop nn) <;> simp
          case measure =>
            show q - nn < q
            omega
    · go_wp2_with fail
      go_ret2
      have hbl := hb.out.len
      have e : bq = [] := List.eq_nil_of_length_eq_zero (by omega)
      have hd : decR b = (r, 0) := by
        have h1 := hD.out
        rw [e] at h1
        have h2 : decGo (30 - m) [] = some [] := by cases 30 - m <;> rfl
        rw [h2] at h1
        rw [decR, h1]; simp
      rw [hd]
      obtain ⟨h10, h11⟩ := ho.out
      subst h10
      exact ⟨A', c', rfl, h11, hw.out⟩
end Go.Proofs.YtifloafhpeeepaaGreat

namespace Go.Proofs.YtifloafhpeeepaaGreat
open Lib (compareBytes)

theorem cb_self : ∀ l : List UInt8, compareBytes l l = 0
  | [] => rfl
  | a :: l => by
    have h : ¬ a < a := by rw [UInt8.lt_iff_toNat_lt]; omega
    simp only [compareBytes, if_neg h, cb_self l]
theorem cb_same (a : UInt8) (l m : List UInt8) : compareBytes (a :: l) (a :: m) = compareBytes l m := by
  have h : ¬ a < a := by rw [UInt8.lt_iff_toNat_lt]; omega
  simp only [compareBytes, if_neg h]
theorem cb_pre : ∀ (p l m : List UInt8), compareBytes (p ++ l) (p ++ m) = compareBytes l m
  | [], _, _ => rfl
  | a :: p, l, m => by rw [List.cons_append, List.cons_append, cb_same, cb_pre p]
theorem num8_cons (a : UInt8) (l : List UInt8) : num8 (a :: l) = a.toNat * 256 ^ l.length + num8 l := by
  have h : ∀ (l : List UInt8) (n : Nat), l.foldl (fun n c => n * 256 + c.toNat) n = n * 256 ^ l.length + l.foldl (fun n c => n * 256 + c.toNat) 0 := by
    intro l
    induction l with
    | nil => intro n; simp
    | cons c l ih =>
      intro n
      simp only [List.foldl_cons, List.length_cons]
      rw [ih (n * 256 + c.toNat), ih (0 * 256 + c.toNat), Nat.pow_succ, Nat.add_mul, Nat.zero_mul, Nat.zero_add, Nat.mul_assoc, Nat.mul_comm 256, Nat.add_assoc]
  unfold num8
  rw [List.foldl_cons, h, Nat.zero_mul, Nat.zero_add]
theorem num8_top : ∀ l : List UInt8, num8 l < 256 ^ l.length
  | [] => by simp [num8]
  | a :: l => by
    have h1 := num8_top l
    have h2 := a.toNat_lt
    rw [num8_cons, List.length_cons, Nat.pow_succ]
    have h3 : a.toNat * 256 ^ l.length ≤ 255 * 256 ^ l.length := Nat.mul_le_mul_right _ (by omega)
    omega
theorem cb_num : ∀ (l m x y : List UInt8), l.length = m.length → num8 l < num8 m → compareBytes (l ++ x) (m ++ y) = -1 ∧ compareBytes (m ++ y) (l ++ x) = 1
  | [], [], x, y, _, h => by simp [num8] at h
  | [], _ :: _, _, _, hl, _ => by simp at hl
  | _ :: _, [], _, _, hl, _ => by simp at hl
  | a :: l, b :: m, x, y, hl, h => by
    have hl' : l.length = m.length := by simpa using hl
    rw [num8_cons, num8_cons, hl'] at h
    have h1 := num8_top l
    have h2 := num8_top m
    rw [hl'] at h1
    rcases Nat.lt_trichotomy a.toNat b.toNat with hab | hab | hab
    · have h3 : a < b := UInt8.lt_iff_toNat_lt.2 hab
      have h4 : ¬ b < a := by rw [UInt8.lt_iff_toNat_lt]; omega
      simp [compareBytes, h3, h4]
    · have e : a = b := UInt8.toNat_inj.1 hab
      subst e
      rw [List.cons_append, List.cons_append, cb_same, cb_same]
      exact cb_num l m x y hl' (by omega)
    · exfalso
      have h3 : (b.toNat + 1) * 256 ^ m.length ≤ a.toNat * 256 ^ m.length := Nat.mul_le_mul_right _ (by omega)
      rw [Nat.add_mul] at h3
      omega
theorem cb_esc : ∀ (s t x y : List UInt8), s ≠ t → compareBytes (esc s ++ 0 :: 0 :: x) (esc t ++ 0 :: 0 :: y) = compareBytes s t
  | [], [], _, _, h => absurd rfl h
  | [], b :: t, x, y, _ => by
    by_cases hb : b = 0
    · subst hb
      simp only [esc, if_true, List.nil_append, List.cons_append]
      rw [cb_same]; rfl
    · have h0 : (0 : UInt8) < b := by
        rw [UInt8.lt_iff_toNat_lt]
        have : b.toNat ≠ 0 := fun e => hb (UInt8.toNat_inj.1 e)
        show 0 < b.toNat
        omega
      simp [esc, hb, compareBytes, h0]
  | a :: s, [], x, y, _ => by
    by_cases hb : a = 0
    · subst hb
      simp only [esc, if_true, List.nil_append, List.cons_append]
      rw [cb_same]; rfl
    · have h0 : (0 : UInt8) < a := by
        rw [UInt8.lt_iff_toNat_lt]
        have : a.toNat ≠ 0 := fun e => hb (UInt8.toNat_inj.1 e)
        show 0 < a.toNat
        omega
      have h1 : ¬ a < (0 : UInt8) := by rw [UInt8.lt_iff_toNat_lt]; show ¬ a.toNat < 0; omega
      simp [esc, hb, compareBytes, h0, h1]
  | a :: s, b :: t, x, y, h => by
    by_cases hab : a = b
    · subst hab
      have h2 : s ≠ t := fun e => h (by rw [e])
      rw [cb_same]
      by_cases ha : a = 0
      · simp only [esc, ha, if_true, List.cons_append]
        rw [cb_same, cb_same, cb_esc s t x y h2]
      · simp only [esc, ha, if_false, List.cons_append]
        rw [cb_same, cb_esc s t x y h2]
    · have hd : ∀ (u v : List UInt8), compareBytes (a :: u) (b :: v) = compareBytes (a :: s) (b :: t) := fun u v => by
        have : a < b ∨ b < a := by
          rw [UInt8.lt_iff_toNat_lt, UInt8.lt_iff_toNat_lt]
          have : a.toNat ≠ b.toNat := fun e => hab (UInt8.toNat_inj.1 e)
          omega
        rcases this with h1 | h1
        · simp only [compareBytes, if_pos h1]
        · have h2 : ¬ a < b := by rw [UInt8.lt_iff_toNat_lt] at h1 ⊢; omega
          simp only [compareBytes, if_neg h2, if_pos h1]
      by_cases ha : a = 0 <;> by_cases hb : b = 0 <;> simp only [esc, ha, hb, if_true, if_false, List.cons_append] <;> (try rw [ha] at hd hab) <;> (try rw [hb] at hd hab) <;> first | exact absurd rfl hab | exact hd _ _
theorem cmpI_self (x : Int) : cmpI x x = 0 := by unfold cmpI; rw [if_neg (by omega), if_neg (by omega)]
theorem cmpV_self (v : V) : cmpV v v = 0 := by simp [cmpV, orI, cmpI_self, cmpB, cb_self]
theorem valid_parts (v : V) (h : validV v = true) : (v.k = 1 ∧ v.t = ByteArray.empty) ∨ (v.k = 2 ∧ v.i = 0) := by
  unfold validV at h
  split at h
  · rename_i h1; exact .inl ⟨h1, (toList_nil_iff_emptyBytes v.t).1 (by simpa using h)⟩
  · split at h
    · rename_i h2
      split at h
      · rename_i h3; exact .inr ⟨h2, h3⟩
      · cases h
    · cases h
theorem bytes_ne {s t : ByteArray} (h : s ≠ t) : s.data.toList ≠ t.data.toList := fun e => h (by
  obtain ⟨⟨s⟩⟩ := s
  obtain ⟨⟨t⟩⟩ := t
  cases e; rfl)
theorem cb_val (u v : V) (hu : validV u = true) (hv : validV v = true) (wu : wfVI u) (wv : wfVI v) (hne : u ≠ v) (x y : List UInt8) :
    compareBytes (packV u ++ x) (packV v ++ y) = cmpV u v := by
  obtain ⟨uk, ui, ut⟩ := u
  obtain ⟨vk, vi, vt⟩ := v
  have pu := valid_parts _ hu
  have pv := valid_parts _ hv
  simp only [wfVI] at wu wv
  dsimp only at pu pv
  rcases pu with ⟨rfl, rfl⟩ | ⟨rfl, rfl⟩ <;> rcases pv with ⟨rfl, rfl⟩ | ⟨rfl, rfl⟩
  · have hij : ui ≠ vi := fun e => hne (by rw [e])
    have e : cmpV ⟨1, ui, ByteArray.empty⟩ ⟨1, vi, ByteArray.empty⟩ = cmpI ui vi := by
      simp only [cmpV, orI, cmpI_self, if_true, cmpB, cb_self]
      split
      · rename_i h0; rw [h0]
      · rfl
    have hb : ∀ i j : Int, (-9223372036854775808 ≤ i ∧ i ≤ 9223372036854775807) → (-9223372036854775808 ≤ j ∧ j ≤ 9223372036854775807) → i < j → num8 (be64 (bias i)) < num8 (be64 (bias j)) := fun i j hi hj h => by
      rw [num8_be _ (bias_lt hi), num8_be _ (bias_lt hj)]; unfold bias; omega
    rw [e]
    simp only [packV, if_true, List.cons_append]
    rw [cb_same]
    rcases Int.lt_or_gt_of_ne hij with h | h
    · rw [(cb_num _ _ x y (by rfl) (hb ui vi wu wv h)).1, cmpI, if_pos h]
    · rw [(cb_num _ _ y x (by rfl) (hb vi ui wv wu h)).2, cmpI, if_neg (by omega), if_pos h]
  · rfl
  · rfl
  · have hst : ut ≠ vt := fun e => hne (by rw [e])
    have e : cmpV ⟨2, 0, ut⟩ ⟨2, 0, vt⟩ = compareBytes ut.data.toList vt.data.toList := by
      simp only [cmpV, orI, cmpI_self, if_true, cmpB]
      by_cases h0 : compareBytes ut.data.toList vt.data.toList = 0
      · exact (if_pos h0).trans h0.symm
      · exact if_neg h0
    have e2 : ∀ (t : ByteArray) (z : List UInt8), packV ⟨2, 0, t⟩ ++ z = 2 :: (esc t.data.toList ++ 0 :: 0 :: z) := fun t z => by simp [packV]
    rw [e, e2, e2, cb_same, cb_esc _ _ x y (bytes_ne hst)]
theorem cb_pack : ∀ a b : List V, a.all validV = true → b.all validV = true → (∀ v ∈ a, wfVI v) → (∀ v ∈ b, wfVI v) → compareBytes (packR a) (packR b) = cmpR a b
  | [], [], _, _, _, _ => rfl
  | [], v :: b, _, _, _, _ => by
    have e : packR (v :: b) = packV v ++ packR b := by simp [packR]
    rw [e]
    cases hp : packV v ++ packR b with
    | nil => have := packV_pos v; have h0 := congrArg List.length hp; rw [List.length_append, List.length_nil] at h0; omega
    | cons c l => rfl
  | u :: a, [], _, _, _, _ => by
    have e : packR (u :: a) = packV u ++ packR a := by simp [packR]
    rw [e]
    cases hp : packV u ++ packR a with
    | nil => have := packV_pos u; have h0 := congrArg List.length hp; rw [List.length_append, List.length_nil] at h0; omega
    | cons c l => rfl
  | u :: a, v :: b, ha, hb, wa, wb => by
    simp only [List.all_cons, Bool.and_eq_true] at ha hb
    have e1 : packR (u :: a) = packV u ++ packR a := by simp [packR]
    have e2 : packR (v :: b) = packV v ++ packR b := by simp [packR]
    rw [e1, e2]
    by_cases huv : u = v
    · subst huv
      rw [cb_pre, cb_pack a b ha.2 hb.2 (fun z hz => wa z (by simp [hz])) (fun z hz => wb z (by simp [hz]))]
      simp only [cmpR, cmpV_self, if_true]
    · rw [cb_val u v ha.1 hb.1 (wa u (by simp)) (wb v (by simp)) huv]
      have h0 : cmpV u v ≠ 0 := fun h => huv ((isCmp_val.eq u v).1 h)
      simp only [cmpR, if_neg h0]
end Go.Proofs.YtifloafhpeeepaaGreat
