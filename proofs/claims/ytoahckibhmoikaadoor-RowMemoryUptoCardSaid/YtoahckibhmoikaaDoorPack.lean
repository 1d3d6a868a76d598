/-
  Pack: the program's and the document's.
-/
import Derived.Test.YtoahckibhmoikaaDoorPackP
import Derived.Test.YtoahckibhmoikaaDoorRefCmp
namespace Go.Proofs.YtoahckibhmoikaaDoor
open Go.RowKit

theorem infoB : (Tryd.prog.info? 5).map (fun i => (i.zero, i.size, i.bytes)) = some (some (.int .u8 0), 1, 1) := by kernel_rfl
/-- bytes of the call's own and an error's number -/
def RetBytesErr (w0 : World) (res : List UInt8 × Int) (en : Ending) (w' : World) : Prop :=
  ∃ A c, en = .returned (.tuple #[.slice A res.1.length c, .int .i64 res.2]) ∧ w'.ownsRow w0.heap.size 5 1 (.slice A res.1.length c) res.1.length (bcells res.1) ∧ Ext w0 w'
theorem ownsNilB (w : World) (base : Nat) : w.ownsRow base 5 1 (.slice none 0 0) 0 (bcells []) := World.ownsRow_nil w base _ 1
def OwnB (w0 w : World) (A : Option Addr) (n c : Nat) (l : List UInt8) : Prop := n = l.length ∧ w.ownsRow w0.heap.size 5 1 (.slice A n c) n (bcells l)
theorem bytes_lit (w : World) (l : List UInt8) (t : TypeId) (g : Nat) (hg : w.heap.size = g) : Sl (w.alloc (.cells (bcells l).toArray t)) (some ⟨g, 0, none⟩) l.length 1 (bcells l) := by
  subst hg
  exact ⟨by rw [bcells_len]; omega, fun _ => ⟨w.heap.size, 0, rfl, fun j u hu => by rw [Nat.zero_add]; exact CellsAt.new w (bcells l) t (0, 0) j u hu⟩⟩
theorem packV_head (v : V) (h : validV v = true) : (v.k = 1 ∧ packV v = 1 :: be64 (bias v.i)) ∨ (v.k = 2 ∧ packV v = 2 :: (esc v.t.data.toList ++ [0, 0]) ∧ v.t.size ≤ 64) := by
  unfold validV at h
  split at h
  · rename_i h1; exact .inl ⟨h1, by simp [packV, h1]⟩
  · rename_i h1
    split at h
    · rename_i h2
      split at h
      · have h4 : (v.t.size : Int) ≤ 64 := by simpa using h
        exact .inr ⟨h2, by simp [packV, h2], by omega⟩
      · cases h
    · cases h
theorem alloc_size (w : World) (o : Obj) : (w.alloc o).heap.size = w.heap.size + 1 := Array.size_push _
theorem bits_bias {i : Int} (h : -9223372036854775808 ≤ i ∧ i ≤ 9223372036854775807) : bits .xor .u64 (IntKind.u64.wrap i) 9223372036854775808 = (bias i : Int) := by
  rw [wrapN_eq]
  have h1 := bits_xor_u64_nat (wrapN i) 9223372036854775808 (wrapN_lt i) (by omega)
  rw [bias_xor h] at h1
  exact h1
theorem take_snoc'' {α : Type} (xs : List α) (i : Nat) (x : α) (h : xs[i]? = some x) : xs.take (i + 1) = xs.take i ++ [x] := by
  rw [List.take_add_one, h]; rfl
theorem be64_get (N j : Nat) (h : j < 8) : (be64 N)[j]? = some (UInt8.ofNat (N / 2 ^ (56 - 8 * j))) := by
  match j, h with
  | 0, _ | 1, _ | 2, _ | 3, _ | 4, _ | 5, _ | 6, _ | 7, _ => rfl
theorem Sl.cast {w : World} {A : Option Addr} {x y : Value} {n : Nat} {xs : List Value} {t : TypeId} (h : Sl (w.alloc (.cells #[x] t)) A n 1 xs) (e : y = x) : Sl (w.alloc (.cells #[y] t)) A n 1 xs := by subst e; exact h
theorem be64_take (N j : Nat) (h : j < 8) : (be64 N).take (j + 1) = (be64 N).take j ++ [UInt8.ofNat (N / 2 ^ (56 - 8 * j))] := take_snoc'' _ _ _ (be64_get N j h)
theorem bytes_take (t : ByteArray) (j : Nat) (h : j < t.size) : t.data.toList.take (j + 1) = t.data.toList.take j ++ [t[j]] := take_snoc'' _ _ _ (byte_get t j h)
def Keep (w w' : World) : Prop := ∀ g t cs, Blk w g t cs → t ≠ 5 → Blk w' g t cs
theorem app_bytes {w : World} {ops : Array Oper} {rest : List Oper} {o : Oper} {a : Act} {Q : Exit → Act → World → Prop} (hgd : o.guard = none) (s x : Operand)
    (ho : o.op = .call { callee := .builtin .append, args := #[s, x], argTypes := #[38, 38] })
    (w0 : World) (hE : Ext w0 w) (A : Option Addr) (n c : Nat) (l : List UInt8) (hs : a.eval s = .slice A n c) (hown : OwnB w0 w A n c l)
    (A2 : Option Addr) (m c2 : Nat) (news : List UInt8) (hx : a.eval x = .slice A2 m c2) (hr : Sl w A2 m 1 (bcells news)) (hm : n + m ≤ 140737488355328)
    (h : ∀ A' c' w', Hid (OwnB w0 w' A' (n + m) c' (l ++ news)) → Hid (Ext w0 w') → Hid (Keep w w') → wpList Tryd.prog ops Q rest (a.put o.dst (.slice A' (n + m) c')) w') : wpList Tryd.prog ops Q (o :: rest) a w := by
  obtain ⟨i0, hi0, hz0, hz1, hz2⟩ := info_parts infoB
  refine wpList_append_sl hgd s x _ ho 5 i0 _ 1 1 (by kernel_rfl) hi0 hz0 hz1 hz2 rfl (by omega) w0 hE _ n (bcells l) hs hown.2 A2 m c2 (bcells news) hx hr (bcells_one _) (by unfold maxLen; omega) (by omega) ?_
  intro A' c' w' h1 h2 h3 _
  refine h A' c' w' ⟨?_, by rw [bcells_append]; exact h1.out⟩ h2 fun g t cs hb hne => hb.grown h3.out (own_ne_blk hown.2 hb fun e => hne e.symm)
  have := hr.1; rw [bcells_len] at this
  rw [List.length_append, ← hown.1]; omega
theorem all_get {r : List V} (h : r.all validV = true) {i : Nat} {v : V} (hv : r[i]? = some v) : validV v = true := List.all_eq_true.1 h v (List.mem_of_getElem? hv)
theorem take_all {r : List V} (h : r.all validV = true) (i : Nat) : (r.take i).all validV = true := List.all_eq_true.2 fun v hv => List.all_eq_true.1 h v (List.mem_of_mem_take hv)

set_option maxRecDepth 100000 in
set_option maxHeartbeats 1000000 in
theorem row_pack (r : List V) (A : Option Addr) (n c : Nat) (w : World) (ha : RowAt w A n r) (hn : n ≤ 1048576) (hs : smallR r) (hw : wfR r) :
    Calls Tryd.prog 27 #[.slice A n c] w (RetBytesErr w (packRes r)) := by
  have Ha := hide ha; have hl := hide ha.len
  have HV := hide (row_valid r A n c w ha hn hs)
  have Hw := hide hw
  clear ha hs hw
  obtain ⟨i0, hi0, hz0, hz1, hz2⟩ := info_parts infoB
  by_cases h30 : n ≤ 30
  rotate_left
  · go_enter Tryd.func27, Tryd.ntmps27
    go_wp2_with fail
    go_ret2
    exact ⟨none, 0, by rw [packRes, if_pos (by have := hl.out; omega)]; rfl, by rw [packRes, if_pos (by have := hl.out; omega)]; exact ownsNilB _ _, Ext.refl _⟩
  by_cases hv : validR r = true
  rotate_left
  · have hv : validR r = false := by simpa using hv
    have Hv := hide hv; clear hv
    go_enter Tryd.func27, Tryd.ntmps27
    go_wp2_with fail
    refine HV.out.mono ?_
    rintro e w1 ⟨rfl, h1⟩
    have E1 := hide h1; clear h1
    rw [Hv.out]
    go_wp2_with fail
    go_ret2
    exact ⟨none, 0, by rw [packRes, if_neg (by have := hl.out; omega), if_neg (by rw [Hv.out]; simp)]; rfl, by rw [packRes, if_neg (by have := hl.out; omega), if_neg (by rw [Hv.out]; simp)]; exact ownsNilB _ _, E1.out⟩
  have Hv := hide hv
  have Hall := hide (show r.all validV = true by simp [validR] at hv; simpa using hv.2); clear hv
  go_enter Tryd.func27, Tryd.ntmps27
  go_wp2_with fail
  refine HV.out.mono ?_
  rintro e w1 ⟨rfl, h1⟩
  have E1 := hide h1; clear h1 HV
  rw [Hv.out]
  go_wp2_with fail
  go_loopw [4, 18] (fun b k w' => ∃ (i l : Nat) (A' : Option Addr) (c' : Nat), i ≤ n ∧ k = .int .i64 i ∧ b = .slice A' l c' ∧ l ≤ 131 * i ∧ Hid (OwnB w w' A' l c' (packR (r.take i))) ∧ Hid (Ext w w')) (fun _ k _ => n - (intOf k).toNat)
  case atStart => exact ⟨0, 0, none, 0, by omega, rfl, rfl, by omega, ⟨rfl, ownsNilB _ _⟩, E1.out⟩
  case round =>
    obtain ⟨i, l, A', c', hin, rfl, rfl, hll, ho, hw1⟩ := hrel
    by_cases h : i < n
    · obtain ⟨b0, off, v, rfl, hx, hb1, d0, d1, d2⟩ := (Ha.out.ext hw1.out).get h
      obtain ⟨wo, rfl⟩ : ∃ wo : World, wo = wr := ⟨_, rfl⟩
      have Hx := hide hx
      have hwfv := hide (Hw.out v (List.mem_of_getElem? hx))
      have hlen3 := hide (packR_len _ (take_all Hall.out (i + 1)))
      have hval := all_get Hall.out hx
      have hsn := hide (packR_snoc (r.take i) v)
      have htk := hide (take_snoc'' r i v hx); clear hx
      have hB := CellsAt.new wo [.int .i64 v.k, .int .i64 v.i, .string v.t] 54 (0, 0)
      have HB := hide (Blk.new wo 54 #[.int .i64 v.k, .int .i64 v.i, .string v.t])
      have HEb := hide (hw1.out.trans (Ext.alloc wo (.cells #[.int .i64 v.k, .int .i64 v.i, .string v.t] 54)))
      have Hob := hide (ho.out.2.alloc (.cells #[.int .i64 v.k, .int .i64 v.i, .string v.t] 54))
      have Hol := hide ho.out.1
      clear hB ho
      rcases packV_head v hval with ⟨hk, hp⟩ | ⟨hk, hp, ht⟩
      · have Hk := hide hk; have Hp := hide hp; clear hk hp hval
        have hl1 := bytes_lit (wo.alloc (.cells #[.int .i64 v.k, .int .i64 v.i, .string v.t] 54)) [1] 5 (wo.heap.size + 1) (alloc_size _ _)
        have hs1 := hide hl1; clear hl1
        have Hoc := hide (Hob.out.alloc (.cells #[.int .u8 1] 5))
        have HBc := hide (HB.out.ext (Ext.alloc _ (.cells #[.int .u8 1] 5)))
        obtain ⟨vk, vi, vt⟩ := v
        obtain rfl : vk = 1 := Hk.out
        have e0 := HB.out.cell 0
        go_wp2_with (at_builtin; refine app_bytes rfl (.tmp 22) (.tmp 26) rfl w (HEb.out.trans (Ext.alloc _ _)) _ l _ (packR (r.take i)) rfl ⟨Hol.out, Hoc.out⟩ _ 1 1 [1] rfl hs1.out (by omega) ?_; intro A8 c8 w8 own8 E8 K8; clear Hob Hoc hs1 Ha; have HB8 := hide (K8.out _ _ _ HBc.out (by decide)); clear HB HBc K8; have e0 := HB8.out.cell 0; have e1 := HB8.out.cell 1; simp only [List.getElem?_toArray, List.getElem?_cons_zero, List.getElem?_cons_succ] at e0 e1)
        rw [bits_bias hwfv.out.2]
        go_loopw [4, 8] (fun b k w' => ∃ (j : Nat) (A' : Option Addr) (c' : Nat), ((j < 8 ∧ k = .int .i64 ((56 - 8 * j : Nat) : Int)) ∨ (j = 8 ∧ k = .int .i64 (-8))) ∧ b = .slice A' (l + 1 + j) c' ∧ Hid (OwnB w w' A' (l + 1 + j) c' (packR (r.take i) ++ 1 :: (be64 (bias vi)).take j)) ∧ Hid (Ext w w')) (fun _ k _ => (intOf k + 8).toNat)
        case atStart => exact ⟨0, A8, c8, .inl ⟨by omega, rfl⟩, rfl, own8.out, E8.out⟩
        case round =>
          obtain ⟨j, A3, c3, hk, rfl, ho3, hw3⟩ := hrel
          rcases hk with ⟨hj, rfl⟩ | ⟨rfl, rfl⟩
          · have hk0 : (0 : Int) ≤ ((56 - 8 * j : Nat) : Int) := by omega
            have hs1 := hide (Sl.cast (bytes_lit wr [UInt8.ofNat (bias vi / 2 ^ (56 - 8 * j))] 5 wr.heap.size rfl) (y := .int .u8 ((bias vi : Int) / 2 ^ (56 - 8 * j) % 256)) (congrArg (Value.int .u8) (by rw [UInt8.toNat_ofNat']; norm_cast)))
            go_wp2_with (at_builtin; refine app_bytes rfl (.tmp 39) (.tmp 44) rfl w (hw3.out.trans (Ext.alloc _ _)) _ (l + 1 + j) _ _ rfl ⟨ho3.out.1, ho3.out.2.alloc _⟩ _ 1 1 [_] rfl hs1.out (by omega) ?_; intro A4 c4 w4 own4 E4 K4)
            go_roundw
            case rel =>
              refine ⟨j + 1, A4, c4, ?_, rfl, ?_, E4.out⟩
              · by_cases h7 : j = 7
                · subst h7; exact .inr ⟨rfl, by go_num⟩
                · refine .inl ⟨by omega, ?_⟩
                  rw [show ((56 - 8 * (j + 1) : Nat) : Int) = ((56 - 8 * j : Nat) : Int) - 8 by omega]
              · have h9 := own4.out
                rw [List.append_assoc, List.cons_append, ← be64_take _ _ hj] at h9
                exact h9
            case measure => simp [intOf]; omega
          · go_wp2_with fail
            go_roundw
            case rel =>
              have fin : packR (r.take (i + 1)) = packR (r.take i) ++ 1 :: (be64 (bias vi)).take 8 := by rw [htk.out, hsn.out, Hp.out]; rfl
              have h9 := ho3.out; rw [← fin] at h9
              exact ⟨i + 1, l + 1 + 8, A3, c3, by omega, by go_num, rfl, by have := h9.1; have := hlen3.out; have := List.length_take_le (i + 1) r; omega, h9, hw3.out⟩
            case measure => simp [intOf]; omega
      · have Hk := hide hk; have Hp := hide hp; have Ht := hide ht; clear hk hp ht hval
        have hs1 := hide (bytes_lit (wo.alloc (.cells #[.int .i64 v.k, .int .i64 v.i, .string v.t] 54)) [2] 5 (wo.heap.size + 1) (alloc_size _ _))
        have Hoc := hide (Hob.out.alloc (.cells #[.int .u8 2] 5))
        have HBc := hide (HB.out.ext (Ext.alloc _ (.cells #[.int .u8 2] 5)))
        obtain ⟨vk, vi, vt⟩ := v
        obtain rfl : vk = 2 := Hk.out
        go_wp2_with (at_builtin; refine app_bytes rfl (.tmp 22) (.tmp 26) rfl w (HEb.out.trans (Ext.alloc _ _)) _ l _ (packR (r.take i)) rfl ⟨Hol.out, Hoc.out⟩ _ 1 1 [2] rfl hs1.out (by omega) ?_; intro A8 c8 w8 own8 E8 K8; clear Hob Hoc hs1 Ha; have HB8 := hide (K8.out _ _ _ HBc.out (by decide)); clear HB HBc K8; have e0 := HB8.out.cell 0; have e2 := HB8.out.cell 2; simp only [List.getElem?_toArray, List.getElem?_cons_zero, List.getElem?_cons_succ] at e0 e2)
        clear e0 e2
        go_loopw [4, 9, 49] (fun b _ k w' => ∃ (j l' : Nat) (A' : Option Addr) (c' : Nat), j ≤ vt.size ∧ k = .int .i64 j ∧ b = .slice A' l' c' ∧ l' ≤ l + 1 + 2 * j ∧ Hid (OwnB w w' A' l' c' (packR (r.take i) ++ 2 :: esc (vt.data.toList.take j))) ∧ Hid (Ext w w') ∧ Hid (Blk w' wo.heap.size 54 #[.int .i64 2, .int .i64 vi, .string vt])) (fun _ _ k _ => vt.size - (intOf k).toNat)
        case atStart => exact ⟨0, l + 1, A8, c8, by omega, rfl, rfl, by omega, own8.out, E8.out, HB8.out⟩
        case round =>
          obtain ⟨j, l3, A3, c3, hj, rfl, rfl, hl3, ho3, hw3, hb3⟩ := hrel
          have e2 := hb3.out.cell 2
          simp only [List.getElem?_toArray, List.getElem?_cons_zero, List.getElem?_cons_succ] at e2
          have hts := hide Ht.out
          by_cases h2 : j < vt.size
          · have hb4 := hide (hb3.out.ext (Ext.alloc _ (.cells #[.int .u8 (vt[j].toNat : Int)] 5)))
            have htj := hide (bytes_take vt j h2)
            have hs1 := hide (bytes_lit wr [vt[j]] 5 wr.heap.size rfl)
            have hts' := Ht.out
            have hj0 : (0 : Int) ≤ (j : Int) := by omega
            have hj1 : (j : Int) < (vt.size : Int) := by omega
            by_cases hz : (vt[j].toNat : Int) = 0
            · have hz' := hide hz
              have hs1 := hide (Sl.cast hs1.out (y := .int .u8 0) (congrArg (Value.int .u8) hz.symm))
              rw [hz] at hb4
              go_wp2_with (at_builtin; first
                | (refine app_bytes rfl (.tmp 52) (.tmp 57) rfl w (hw3.out.trans (Ext.alloc _ _)) _ l3 _ _ rfl ⟨ho3.out.1, ho3.out.2.alloc _⟩ _ 1 1 [_] rfl hs1.out (by have := hts.out; omega) ?_; intro A4 c4 w4 own4 E4 K4; have hb5 := hide (K4.out _ _ _ hb4.out (by decide)); clear K4; have e3 := hb5.out.cell 2; simp only [List.getElem?_toArray, List.getElem?_cons_zero, List.getElem?_cons_succ] at e3; have hs5 := hide (bytes_lit w4 [255] 5 w4.heap.size rfl))
                | (refine app_bytes rfl (.tmp 64) (.tmp 65) rfl w (E4.out.trans (Ext.alloc _ _)) _ (l3 + 1) _ _ rfl ⟨own4.out.1, own4.out.2.alloc _⟩ _ 1 1 [255] rfl hs5.out (by have := hts.out; omega) ?_; intro A6 c6 w6 own6 E6 K6; have hb6 := hide (K6.out _ _ _ (hb5.out.ext (Ext.alloc _ _)) (by decide)); clear K6))
              go_roundw
              case rel =>
                have fin : packR (r.take i) ++ 2 :: esc (vt.data.toList.take (j + 1)) = packR (r.take i) ++ 2 :: esc (vt.data.toList.take j) ++ [vt[j]] ++ [255] := by
                  have h0 : vt[j] = 0 := UInt8.toNat_inj.1 (by have := hz'.out; show _ = 0; omega)
                  rw [htj.out, esc_append, h0]; simp [esc]
                have h9 := own6.out; rw [← fin] at h9
                exact ⟨j + 1, l3 + 1 + 1, A6, c6, by omega, by go_num, rfl, by omega, h9, E6.out, hb6.out⟩
              case measure => simp [intOf]; omega
            · have hz' := hide hz
              go_wp2_with (at_builtin; refine app_bytes rfl (.tmp 52) (.tmp 57) rfl w (hw3.out.trans (Ext.alloc _ _)) _ l3 _ _ rfl ⟨ho3.out.1, ho3.out.2.alloc _⟩ _ 1 1 [_] rfl hs1.out (by have := hts.out; omega) ?_; intro A4 c4 w4 own4 E4 K4; have hb5 := hide (K4.out _ _ _ hb4.out (by decide)); clear K4; have e3 := hb5.out.cell 2; simp only [List.getElem?_toArray, List.getElem?_cons_zero, List.getElem?_cons_succ] at e3)
              go_roundw
              case rel =>
                have fin : packR (r.take i) ++ 2 :: esc (vt.data.toList.take (j + 1)) = packR (r.take i) ++ 2 :: esc (vt.data.toList.take j) ++ [vt[j]] := by
                  have h0 : ¬ vt[j] = 0 := fun e => hz'.out (by rw [e]; rfl)
                  rw [htj.out, esc_append]; simp [esc, h0]
                have h9 := own4.out; rw [← fin] at h9
                exact ⟨j + 1, l3 + 1, A4, c4, by omega, by go_num, rfl, by omega, h9, E4.out, hb5.out⟩
              case measure => simp [intOf]; omega
          · have hs1 := hide (bytes_lit wr [0, 0] 5 wr.heap.size rfl)
            go_wp2_with (at_builtin; refine app_bytes rfl (.tmp 68) (.tmp 69) rfl w (hw3.out.trans (Ext.alloc _ _)) _ l3 _ _ rfl ⟨ho3.out.1, ho3.out.2.alloc _⟩ _ 2 2 [0, 0] rfl hs1.out (by have := hts.out; omega) ?_; intro A4 c4 w4 own4 E4 K4)
            go_roundw
            case rel =>
              have fin : packR (r.take (i + 1)) = packR (r.take i) ++ 2 :: esc (vt.data.toList.take j) ++ [0, 0] := by
                rw [htk.out, hsn.out, Hp.out, List.take_of_length_le (l := vt.data.toList) (by rw [len_data]; omega)]; simp
              have h9 := own4.out; rw [← fin] at h9
              exact ⟨i + 1, l3 + 2, A4, c4, by omega, by go_num, rfl, by have := h9.1; have := hlen3.out; have := List.length_take_le (i + 1) r; omega, h9, E4.out⟩
            case measure => simp [intOf]; omega
    · go_wp2_with fail
      go_ret2
      have e : packR (r.take i) = packR r := by rw [List.take_of_length_le (by have := hl.out; omega)]
      have h9 := ho.out; rw [e] at h9
      have ep : packRes r = (packR r, 0) := by rw [packRes, if_neg (by have := hl.out; omega), if_pos Hv.out]
      rw [ep]
      obtain ⟨h10, h11⟩ := h9
      subst h10
      exact ⟨A', c', rfl, h11, hw1.out⟩
end Go.Proofs.YtoahckibhmoikaaDoor
