/-
  
  
  The document's Compare.
  Pack: the program's and the document's.
  Project: the program's and the document's; a list of numbers in new memory.
-/
import Derived.Test.YtahdiiaadjdmcaaGround
import Derived.Test.YtahdiiaadjdmcaaShelf
import Derived.Test.YtahdiiaadjdmcaaGaF
import Derived.Test.YtahdiiaadjdmcaaGaD
namespace Go.Proofs.Ytahdiiaadjdmcaa
open Go.RowKit

theorem orI_drop (xs : List Int) (k : Nat) (x : Int) (hx : xs[k]? = some x) : orI (xs.drop k) = if x = 0 then orI (xs.drop (k + 1)) else x := by
  have hl : k < xs.length := by rw [List.getElem?_eq_some_iff] at hx; exact hx.1
  rw [List.drop_eq_getElem_cons hl]
  rw [List.getElem?_eq_getElem hl] at hx
  injection hx with hx
  rw [hx]; rfl

end Go.Proofs.Ytahdiiaadjdmcaa

namespace Go.Proofs.Ytahdiiaadjdmcaa
open Go.RowKit


def IntsAt (xs : List Int) (v : Value) (w : World) : Prop := ∃ b, v = .slice (some ⟨b, 0, none⟩) xs.length xs.length ∧ ∀ (i : Nat) (x : Int), xs[i]? = some x → w.cell? ⟨b, i, none⟩ = some (.int .i64 x)
theorem IntsAt.stable {xs : List Int} {v : Value} {w w' : World} (hw : Ext w w') (h : IntsAt xs v w) : IntsAt xs v w' := by
  obtain ⟨b, hv, hc⟩ := h
  exact ⟨b, hv, fun i x hx => hw.cell (hc i x hx)⟩

theorem IntsAt.new (w : World) (xs : List Int) (t : TypeId) : IntsAt xs (.slice (some ⟨w.heap.size, 0, none⟩) xs.length xs.length) (w.alloc (.cells (xs.map (Value.int .i64)).toArray t)) :=
  ⟨w.heap.size, rfl, fun i x hx => CellsAt.new w (xs.map (Value.int .i64)) t (0, 0) i _ (by simp [hx])⟩

def Row2At (w : World) (A : Option Addr) (n : Nat) (r : List V) : Prop := RowAt w A n r ∧ n ≤ 140737488355328

theorem cmpR_drop (as_ bs : List V) (k : Nat) (a b : V) (ha : as_[k]? = some a) (hb : bs[k]? = some b) : cmpR (as_.drop k) (bs.drop k) = if cmpV a b = 0 then cmpR (as_.drop (k + 1)) (bs.drop (k + 1)) else cmpV a b := by
  rw [List.getElem?_eq_some_iff] at ha hb
  obtain ⟨ha, ea⟩ := ha
  obtain ⟨hb, eb⟩ := hb
  rw [List.drop_eq_getElem_cons ha, List.drop_eq_getElem_cons hb, ea, eb]; rfl
theorem cmpR_left (as_ bs : List V) (k : Nat) (a : V) (ha : as_[k]? = some a) (hb : bs.length ≤ k) : cmpR (as_.drop k) (bs.drop k) = 1 := by
  rw [List.getElem?_eq_some_iff] at ha
  obtain ⟨ha, ea⟩ := ha
  rw [List.drop_eq_getElem_cons ha, List.drop_of_length_le hb]; rfl
theorem cmpR_end (as_ bs : List V) (k : Nat) (ha : as_.length ≤ k) (hb : k ≤ bs.length) : cmpR (as_.drop k) (bs.drop k) = if k < bs.length then -1 else 0 := by
  rw [List.drop_of_length_le ha]
  split
  · rename_i h; rw [List.drop_eq_getElem_cons h]; rfl
  · rename_i h; rw [List.drop_of_length_le (by omega)]; rfl

end Go.Proofs.Ytahdiiaadjdmcaa

namespace Go.Proofs.Ytahdiiaadjdmcaa
open Go.RowKit

theorem cb_drop (a b : List UInt8) (i : Nat) (x y : UInt8) (hx : a[i]? = some x) (hy : b[i]? = some y) : Lib.compareBytes (a.drop i) (b.drop i) = if (x.toNat : Int) < (y.toNat : Int) then -1 else if (y.toNat : Int) < (x.toNat : Int) then 1 else Lib.compareBytes (a.drop (i + 1)) (b.drop (i + 1)) := by
  rw [List.getElem?_eq_some_iff] at hx hy
  obtain ⟨hx, ex⟩ := hx
  obtain ⟨hy, ey⟩ := hy
  rw [List.drop_eq_getElem_cons hx, List.drop_eq_getElem_cons hy, ex, ey]
  have h1 : (x < y) ↔ ((x.toNat : Int) < y.toNat) := by rw [UInt8.lt_iff_toNat_lt]; omega
  have h2 : (y < x) ↔ ((y.toNat : Int) < x.toNat) := by rw [UInt8.lt_iff_toNat_lt]; omega
  simp only [Lib.compareBytes, h1, h2]
theorem cb_end (a b : List UInt8) (i : Nat) (h : a.length ≤ i ∨ b.length ≤ i) (h2 : i ≤ a.length ∧ i ≤ b.length) : Lib.compareBytes (a.drop i) (b.drop i) = if a.length < b.length then -1 else if b.length < a.length then 1 else 0 := by
  rcases h with h | h
  · rw [List.drop_of_length_le h]
    by_cases h3 : i < b.length
    · rw [List.drop_eq_getElem_cons h3, if_pos (by omega)]; rfl
    · rw [List.drop_of_length_le (by omega), if_neg (by omega), if_neg (by omega)]; rfl
  · rw [List.drop_of_length_le h]
    by_cases h3 : i < a.length
    · rw [List.drop_eq_getElem_cons h3, if_neg (by omega), if_pos (by omega)]; rfl
    · rw [List.drop_of_length_le (by omega), if_neg (by omega), if_neg (by omega)]; rfl

theorem byte_get (s : ByteArray) (i : Nat) (h : i < s.size) : s.data.toList[i]? = some s[i] := by
  rw [List.getElem?_eq_getElem (by rw [Array.length_toList]; exact h)]; rfl
theorem len_data (s : ByteArray) : s.data.toList.length = s.size := Array.length_toList

end Go.Proofs.Ytahdiiaadjdmcaa

namespace Go.Proofs.Ytahdiiaadjdmcaa
open Go.RowKit

theorem infoB : (Try.prog.info? 5).map (fun i => (i.zero, i.size, i.bytes)) = some (some (.int .u8 0), 1, 1) := by kernel_rfl
/-- bytes of the call's own and an error's number -/
def RetBytesErr (w0 : World) (res : List UInt8 × Int) (en : Ending) (w' : World) : Prop :=
  ∃ A c, en = .returned (.tuple #[.slice A res.1.length c, .int .i64 res.2]) ∧ w'.ownsRow w0.heap.size 5 1 (.slice A res.1.length c) res.1.length (bcells res.1) ∧ Ext w0 w'
theorem ownsNilB (w : World) (base : Nat) : w.ownsRow base 5 1 (.slice none 0 0) 0 (bcells []) := World.ownsRow_nil w base _ 1
def OwnB (w0 w : World) (A : Option Addr) (n c : Nat) (l : List UInt8) : Prop := n = l.length ∧ w.ownsRow w0.heap.size 5 1 (.slice A n c) n (bcells l)
theorem bytes_lit (w : World) (l : List UInt8) (t : TypeId) (g : Nat) (hg : w.heap.size = g) : Sl (w.alloc (.cells (bcells l).toArray t)) (some ⟨g, 0, none⟩) l.length 1 (bcells l) := by
  subst hg
  exact ⟨by rw [bcells_len]; omega, fun _ => ⟨w.heap.size, 0, rfl, fun j u hu => by rw [Nat.zero_add]; exact CellsAt.new w (bcells l) t (0, 0) j u hu⟩⟩
theorem packV_head (v : V) (h : validV v = true) : (v.k = 1 ∧ packV v = 1 :: be64 (bias v.i)) ∨ (v.k = 2 ∧ packV v = 2 :: (esc v.t.data.toList ++ [0, 0]) ∧ v.t.size ≤ 64) := by
  unfold validV at h
  split at h
  · rename_i h1; exact .inl ⟨h1, by simp [packV, h1]⟩
  · rename_i h1
    split at h
    · rename_i h2
      split at h
      · have h4 : (v.t.size : Int) ≤ 64 := by simpa using h
        exact .inr ⟨h2, by simp [packV, h2], by omega⟩
      · cases h
    · cases h
theorem alloc_size (w : World) (o : Obj) : (w.alloc o).heap.size = w.heap.size + 1 := Array.size_push _
theorem bits_bias {i : Int} (h : -9223372036854775808 ≤ i ∧ i ≤ 9223372036854775807) : bits .xor .u64 (IntKind.u64.wrap i) 9223372036854775808 = (bias i : Int) := by
  rw [wrapN_eq]
  have h1 := bits_xor_u64_nat (wrapN i) 9223372036854775808 (wrapN_lt i) (by omega)
  rw [bias_xor h] at h1
  exact h1
theorem take_snoc'' {α : Type} (xs : List α) (i : Nat) (x : α) (h : xs[i]? = some x) : xs.take (i + 1) = xs.take i ++ [x] := by
  rw [List.take_add_one, h]; rfl
theorem be64_get (N j : Nat) (h : j < 8) : (be64 N)[j]? = some (UInt8.ofNat (N / 2 ^ (56 - 8 * j))) := by
  match j, h with
  | 0, _ | 1, _ | 2, _ | 3, _ | 4, _ | 5, _ | 6, _ | 7, _ => rfl
theorem Sl.cast {w : World} {A : Option Addr} {x y : Value} {n : Nat} {xs : List Value} {t : TypeId} (h : Sl (w.alloc (.cells #[x] t)) A n 1 xs) (e : y = x) : Sl (w.alloc (.cells #[y] t)) A n 1 xs := by subst e; exact h
theorem be64_take (N j : Nat) (h : j < 8) : (be64 N).take (j + 1) = (be64 N).take j ++ [UInt8.ofNat (N / 2 ^ (56 - 8 * j))] := take_snoc'' _ _ _ (be64_get N j h)
theorem bytes_take (t : ByteArray) (j : Nat) (h : j < t.size) : t.data.toList.take (j + 1) = t.data.toList.take j ++ [t[j]] := take_snoc'' _ _ _ (byte_get t j h)
def Keep (w w' : World) : Prop := ∀ g t cs, Blk w g t cs → t ≠ 5 → Blk w' g t cs
theorem app_bytes {w : World} {ops : Array Oper} {rest : List Oper} {o : Oper} {a : Act} {Q : Exit → Act → World → Prop} (hgd : o.guard = none) (s x : Operand)
    (ho : o.op = .call { callee := .builtin .append, args := #[s, x], argTypes := #[113, 113] })
    (w0 : World) (hE : Ext w0 w) (A : Option Addr) (n c : Nat) (l : List UInt8) (hs : a.eval s = .slice A n c) (hown : OwnB w0 w A n c l)
    (A2 : Option Addr) (m c2 : Nat) (news : List UInt8) (hx : a.eval x = .slice A2 m c2) (hr : Sl w A2 m 1 (bcells news)) (hm : n + m ≤ 140737488355328)
    (h : ∀ A' c' w', Hid (OwnB w0 w' A' (n + m) c' (l ++ news)) → Hid (Ext w0 w') → Hid (Keep w w') → wpList Try.prog ops Q rest (a.put o.dst (.slice A' (n + m) c')) w') : wpList Try.prog ops Q (o :: rest) a w := by
  obtain ⟨i0, hi0, hz0, hz1, hz2⟩ := info_parts infoB
  refine wpList_append_sl hgd s x _ ho 5 i0 _ 1 1 (by kernel_rfl) hi0 hz0 hz1 hz2 rfl (by omega) w0 hE _ n (bcells l) hs hown.2 A2 m c2 (bcells news) hx hr (bcells_one _) (by unfold maxLen; omega) (by omega) ?_
  intro A' c' w' h1 h2 h3 _
  refine h A' c' w' ⟨?_, by rw [bcells_append]; exact h1.out⟩ h2 fun g t cs hb hne => hb.grown h3.out (own_ne_blk hown.2 hb fun e => hne e.symm)
  have := hr.1; rw [bcells_len] at this
  rw [List.length_append, ← hown.1]; omega
theorem all_get {r : List V} (h : r.all validV = true) {i : Nat} {v : V} (hv : r[i]? = some v) : validV v = true := List.all_eq_true.1 h v (List.mem_of_getElem? hv)
theorem take_all {r : List V} (h : r.all validV = true) (i : Nat) : (r.take i).all validV = true := List.all_eq_true.2 fun v hv => List.all_eq_true.1 h v (List.mem_of_mem_take hv)

set_option maxRecDepth 100000 in
set_option maxHeartbeats 1000000 in
theorem row_pack (r : List V) (A : Option Addr) (n c : Nat) (w : World) (ha : RowAt w A n r) (hn : n ≤ 1048576) (hs : smallR r) (hw : wfR r) :
    Calls Try.prog 49 #[.slice A n c] w (RetBytesErr w (packRes r)) := by
  have Ha := hide ha; have hl := hide ha.len
  have HV := hide (row_valid r A n c w ha hn hs)
  have Hw := hide hw
  clear ha hs hw
  obtain ⟨i0, hi0, hz0, hz1, hz2⟩ := info_parts infoB
  by_cases h30 : n ≤ 30
  rotate_left
  · go_enter Try.func49, Try.ntmps49
    go_wp2_with fail
    go_ret2
    exact ⟨none, 0, by rw [packRes, if_pos (by have := hl.out; omega)]; rfl, by rw [packRes, if_pos (by have := hl.out; omega)]; exact ownsNilB _ _, Ext.refl _⟩
  by_cases hv : validR r = true
  rotate_left
  · have hv : validR r = false := by simpa using hv
    have Hv := hide hv; clear hv
    go_enter Try.func49, Try.ntmps49
    go_wp2_with fail
    refine HV.out.mono ?_
    rintro e w1 ⟨rfl, h1⟩
    have E1 := hide h1; clear h1
    rw [Hv.out]
    go_wp2_with fail
    go_ret2
    exact ⟨none, 0, by rw [packRes, if_neg (by have := hl.out; omega), if_neg (by rw [Hv.out]; simp)]; rfl, by rw [packRes, if_neg (by have := hl.out; omega), if_neg (by rw [Hv.out]; simp)]; exact ownsNilB _ _, E1.out⟩
  have Hv := hide hv
  have Hall := hide (show r.all validV = true by simp [validR] at hv; simpa using hv.2); clear hv
  go_enter Try.func49, Try.ntmps49
  go_wp2_with fail
  refine HV.out.mono ?_
  rintro e w1 ⟨rfl, h1⟩
  have E1 := hide h1; clear h1 HV
  rw [Hv.out]
  go_wp2_with fail
  go_loopw [4, 18] (fun b k w' => ∃ (i l : Nat) (A' : Option Addr) (c' : Nat), i ≤ n ∧ k = .int .i64 i ∧ b = .slice A' l c' ∧ l ≤ 131 * i ∧ Hid (OwnB w w' A' l c' (packR (r.take i))) ∧ Hid (Ext w w')) (fun _ k _ => n - (intOf k).toNat)
  case atStart => exact ⟨0, 0, none, 0, by omega, rfl, rfl, by omega, ⟨rfl, ownsNilB _ _⟩, E1.out⟩
  case round =>
    obtain ⟨i, l, A', c', hin, rfl, rfl, hll, ho, hw1⟩ := hrel
    by_cases h : i < n
    · obtain ⟨b0, off, v, rfl, hx, hb1, d0, d1, d2⟩ := (Ha.out.ext hw1.out).get h
      obtain ⟨wo, rfl⟩ : ∃ wo : World, wo = wr := ⟨_, rfl⟩
      have Hx := hide hx
      have hwfv := hide (Hw.out v (List.mem_of_getElem? hx))
      have hlen3 := hide (packR_len _ (take_all Hall.out (i + 1)))
      have hval := all_get Hall.out hx
      have hsn := hide (packR_snoc (r.take i) v)
      have htk := hide (take_snoc'' r i v hx); clear hx
      have hB := CellsAt.new wo [.int .i64 v.k, .int .i64 v.i, .string v.t] 59 (0, 0)
      have HB := hide (Blk.new wo 59 #[.int .i64 v.k, .int .i64 v.i, .string v.t])
      have HEb := hide (hw1.out.trans (Ext.alloc wo (.cells #[.int .i64 v.k, .int .i64 v.i, .string v.t] 59)))
      have Hob := hide (ho.out.2.alloc (.cells #[.int .i64 v.k, .int .i64 v.i, .string v.t] 59))
      have Hol := hide ho.out.1
      clear hB ho
      rcases packV_head v hval with ⟨hk, hp⟩ | ⟨hk, hp, ht⟩
      · have Hk := hide hk; have Hp := hide hp; clear hk hp hval
        have hl1 := bytes_lit (wo.alloc (.cells #[.int .i64 v.k, .int .i64 v.i, .string v.t] 59)) [1] 5 (wo.heap.size + 1) (alloc_size _ _)
        have hs1 := hide hl1; clear hl1
        have Hoc := hide (Hob.out.alloc (.cells #[.int .u8 1] 5))
        have HBc := hide (HB.out.ext (Ext.alloc _ (.cells #[.int .u8 1] 5)))
        obtain ⟨vk, vi, vt⟩ := v
        obtain rfl : vk = 1 := Hk.out
        have e0 := HB.out.cell 0
        go_wp2_with (at_builtin; refine app_bytes rfl (.tmp 22) (.tmp 26) rfl w (HEb.out.trans (Ext.alloc _ _)) _ l _ (packR (r.take i)) rfl ⟨Hol.out, Hoc.out⟩ _ 1 1 [1] rfl hs1.out (by omega) ?_; intro A8 c8 w8 own8 E8 K8; clear Hob Hoc hs1 Ha; have HB8 := hide (K8.out _ _ _ HBc.out (by decide)); clear HB HBc K8; have e0 := HB8.out.cell 0; have e1 := HB8.out.cell 1; simp only [List.getElem?_toArray, List.getElem?_cons_zero, List.getElem?_cons_succ] at e0 e1)
        rw [bits_bias hwfv.out.2]
        go_loopw [4, 8] (fun b k w' => ∃ (j : Nat) (A' : Option Addr) (c' : Nat), ((j < 8 ∧ k = .int .i64 ((56 - 8 * j : Nat) : Int)) ∨ (j = 8 ∧ k = .int .i64 (-8))) ∧ b = .slice A' (l + 1 + j) c' ∧ Hid (OwnB w w' A' (l + 1 + j) c' (packR (r.take i) ++ 1 :: (be64 (bias vi)).take j)) ∧ Hid (Ext w w')) (fun _ k _ => (intOf k + 8).toNat)
        case atStart => exact ⟨0, A8, c8, .inl ⟨by omega, rfl⟩, rfl, own8.out, E8.out⟩
        case round =>
          obtain ⟨j, A3, c3, hk, rfl, ho3, hw3⟩ := hrel
          rcases hk with ⟨hj, rfl⟩ | ⟨rfl, rfl⟩
          · have hk0 : (0 : Int) ≤ ((56 - 8 * j : Nat) : Int) := by omega
            have hs1 := hide (Sl.cast (bytes_lit wr [UInt8.ofNat (bias vi / 2 ^ (56 - 8 * j))] 5 wr.heap.size rfl) (y := .int .u8 ((bias vi : Int) / 2 ^ (56 - 8 * j) % 256)) (congrArg (Value.int .u8) (by rw [UInt8.toNat_ofNat']; norm_cast)))
            go_wp2_with (at_builtin; refine app_bytes rfl (.tmp 39) (.tmp 44) rfl w (hw3.out.trans (Ext.alloc _ _)) _ (l + 1 + j) _ _ rfl ⟨ho3.out.1, ho3.out.2.alloc _⟩ _ 1 1 [_] rfl hs1.out (by omega) ?_; intro A4 c4 w4 own4 E4 K4)
            go_roundw
            case rel =>
              refine ⟨j + 1, A4, c4, ?_, rfl, ?_, E4.out⟩
              · by_cases h7 : j = 7
                · subst h7; exact .inr ⟨rfl, by go_num⟩
                · refine .inl ⟨by omega, ?_⟩
                  rw [show ((56 - 8 * (j + 1) : Nat) : Int) = ((56 - 8 * j : Nat) : Int) - 8 by omega]
              · have h9 := own4.out
                rw [List.append_assoc, List.cons_append, ← be64_take _ _ hj] at h9
                exact h9
            case measure => simp [intOf]; omega
          · go_wp2_with fail
            go_roundw
            case rel =>
              have fin : packR (r.take (i + 1)) = packR (r.take i) ++ 1 :: (be64 (bias vi)).take 8 := by rw [htk.out, hsn.out, Hp.out]; rfl
              have h9 := ho3.out; rw [← fin] at h9
              exact ⟨i + 1, l + 1 + 8, A3, c3, by omega, by go_num, rfl, by have := h9.1; have := hlen3.out; have := List.length_take_le (i + 1) r; omega, h9, hw3.out⟩
            case measure => simp [intOf]; omega
      · have Hk := hide hk; have Hp := hide hp; have Ht := hide ht; clear hk hp ht hval
        have hs1 := hide (bytes_lit (wo.alloc (.cells #[.int .i64 v.k, .int .i64 v.i, .string v.t] 59)) [2] 5 (wo.heap.size + 1) (alloc_size _ _))
        have Hoc := hide (Hob.out.alloc (.cells #[.int .u8 2] 5))
        have HBc := hide (HB.out.ext (Ext.alloc _ (.cells #[.int .u8 2] 5)))
        obtain ⟨vk, vi, vt⟩ := v
        obtain rfl : vk = 2 := Hk.out
        go_wp2_with (at_builtin; refine app_bytes rfl (.tmp 22) (.tmp 26) rfl w (HEb.out.trans (Ext.alloc _ _)) _ l _ (packR (r.take i)) rfl ⟨Hol.out, Hoc.out⟩ _ 1 1 [2] rfl hs1.out (by omega) ?_; intro A8 c8 w8 own8 E8 K8; clear Hob Hoc hs1 Ha; have HB8 := hide (K8.out _ _ _ HBc.out (by decide)); clear HB HBc K8; have e0 := HB8.out.cell 0; have e2 := HB8.out.cell 2; simp only [List.getElem?_toArray, List.getElem?_cons_zero, List.getElem?_cons_succ] at e0 e2)
        clear e0 e2
        go_loopw [4, 9, 49] (fun b _ k w' => ∃ (j l' : Nat) (A' : Option Addr) (c' : Nat), j ≤ vt.size ∧ k = .int .i64 j ∧ b = .slice A' l' c' ∧ l' ≤ l + 1 + 2 * j ∧ Hid (OwnB w w' A' l' c' (packR (r.take i) ++ 2 :: esc (vt.data.toList.take j))) ∧ Hid (Ext w w') ∧ Hid (Blk w' wo.heap.size 59 #[.int .i64 2, .int .i64 vi, .string vt])) (fun _ _ k _ => vt.size - (intOf k).toNat)
        case atStart => exact ⟨0, l + 1, A8, c8, by omega, rfl, rfl, by omega, own8.out, E8.out, HB8.out⟩
        case round =>
          obtain ⟨j, l3, A3, c3, hj, rfl, rfl, hl3, ho3, hw3, hb3⟩ := hrel
          have e2 := hb3.out.cell 2
          simp only [List.getElem?_toArray, List.getElem?_cons_zero, List.getElem?_cons_succ] at e2
          have hts := hide Ht.out
          by_cases h2 : j < vt.size
          · have hb4 := hide (hb3.out.ext (Ext.alloc _ (.cells #[.int .u8 (vt[j].toNat : Int)] 5)))
            have htj := hide (bytes_take vt j h2)
            have hs1 := hide (bytes_lit wr [vt[j]] 5 wr.heap.size rfl)
            have hts' := Ht.out
            have hj0 : (0 : Int) ≤ (j : Int) := by omega
            have hj1 : (j : Int) < (vt.size : Int) := by omega
            by_cases hz : (vt[j].toNat : Int) = 0
            · have hz' := hide hz
              have hs1 := hide (Sl.cast hs1.out (y := .int .u8 0) (congrArg (Value.int .u8) hz.symm))
              rw [hz] at hb4
              go_wp2_with (at_builtin; first
                | (refine app_bytes rfl (.tmp 52) (.tmp 57) rfl w (hw3.out.trans (Ext.alloc _ _)) _ l3 _ _ rfl ⟨ho3.out.1, ho3.out.2.alloc _⟩ _ 1 1 [_] rfl hs1.out (by have := hts.out; omega) ?_; intro A4 c4 w4 own4 E4 K4; have hb5 := hide (K4.out _ _ _ hb4.out (by decide)); clear K4; have e3 := hb5.out.cell 2; simp only [List.getElem?_toArray, List.getElem?_cons_zero, List.getElem?_cons_succ] at e3; have hs5 := hide (bytes_lit w4 [255] 5 w4.heap.size rfl))
                | (refine app_bytes rfl (.tmp 64) (.tmp 65) rfl w (E4.out.trans (Ext.alloc _ _)) _ (l3 + 1) _ _ rfl ⟨own4.out.1, own4.out.2.alloc _⟩ _ 1 1 [255] rfl hs5.out (by have := hts.out; omega) ?_; intro A6 c6 w6 own6 E6 K6; have hb6 := hide (K6.out _ _ _ (hb5.out.ext (Ext.alloc _ _)) (by decide)); clear K6))
              go_roundw
              case rel =>
                have fin : packR (r.take i) ++ 2 :: esc (vt.data.toList.take (j + 1)) = packR (r.take i) ++ 2 :: esc (vt.data.toList.take j) ++ [vt[j]] ++ [255] := by
                  have h0 : vt[j] = 0 := UInt8.toNat_inj.1 (by have := hz'.out; show _ = 0; omega)
                  rw [htj.out, esc_append, h0]; simp [esc]
                have h9 := own6.out; rw [← fin] at h9
                exact ⟨j + 1, l3 + 1 + 1, A6, c6, by omega, by go_num, rfl, by omega, h9, E6.out, hb6.out⟩
              case measure => simp [intOf]; omega
            · have hz' := hide hz
              go_wp2_with (at_builtin; refine app_bytes rfl (.tmp 52) (.tmp 57) rfl w (hw3.out.trans (Ext.alloc _ _)) _ l3 _ _ rfl ⟨ho3.out.1, ho3.out.2.alloc _⟩ _ 1 1 [_] rfl hs1.out (by have := hts.out; omega) ?_; intro A4 c4 w4 own4 E4 K4; have hb5 := hide (K4.out _ _ _ hb4.out (by decide)); clear K4; have e3 := hb5.out.cell 2; simp only [List.getElem?_toArray, List.getElem?_cons_zero, List.getElem?_cons_succ] at e3)
              go_roundw
              case rel =>
                have fin : packR (r.take i) ++ 2 :: esc (vt.data.toList.take (j + 1)) = packR (r.take i) ++ 2 :: esc (vt.data.toList.take j) ++ [vt[j]] := by
                  have h0 : ¬ vt[j] = 0 := fun e => hz'.out (by rw [e]; rfl)
                  rw [htj.out, esc_append]; simp [esc, h0]
                have h9 := own4.out; rw [← fin] at h9
                exact ⟨j + 1, l3 + 1, A4, c4, by omega, by go_num, rfl, by omega, h9, E4.out, hb5.out⟩
              case measure => simp [intOf]; omega
          · have hs1 := hide (bytes_lit wr [0, 0] 5 wr.heap.size rfl)
            go_wp2_with (at_builtin; refine app_bytes rfl (.tmp 68) (.tmp 69) rfl w (hw3.out.trans (Ext.alloc _ _)) _ l3 _ _ rfl ⟨ho3.out.1, ho3.out.2.alloc _⟩ _ 2 2 [0, 0] rfl hs1.out (by have := hts.out; omega) ?_; intro A4 c4 w4 own4 E4 K4)
            go_roundw
            case rel =>
              have fin : packR (r.take (i + 1)) = packR (r.take i) ++ 2 :: esc (vt.data.toList.take j) ++ [0, 0] := by
                rw [htk.out, hsn.out, Hp.out, List.take_of_length_le (l := vt.data.toList) (by rw [len_data]; omega)]; simp
              have h9 := own4.out; rw [← fin] at h9
              exact ⟨i + 1, l3 + 2, A4, c4, by omega, by go_num, rfl, by have := h9.1; have := hlen3.out; have := List.length_take_le (i + 1) r; omega, h9, E4.out⟩
            case measure => simp [intOf]; omega
    · go_wp2_with fail
      go_ret2
      have e : packR (r.take i) = packR r := by rw [List.take_of_length_le (by have := hl.out; omega)]
      have h9 := ho.out; rw [e] at h9
      have ep : packRes r = (packR r, 0) := by rw [packRes, if_neg (by have := hl.out; omega), if_pos Hv.out]
      rw [ep]
      obtain ⟨h10, h11⟩ := h9
      subst h10
      exact ⟨A', c', rfl, h11, hw1.out⟩
end Go.Proofs.Ytahdiiaadjdmcaa

namespace Go.Proofs.Ytahdiiaadjdmcaa
open Go.RowKit

/-- n numbers lie at A -/
def NumAt (w : World) (A : Option Addr) (n : Nat) (xs : List Int) : Prop := n = xs.length ∧ Sl w A n 1 (xs.map (Value.int .i64))
theorem NumAt.ext {w w' : World} {A : Option Addr} {n : Nat} {xs : List Int} (h : NumAt w A n xs) (hw : Ext w w') : NumAt w' A n xs := ⟨h.1, h.2.ext hw⟩
theorem NumAt.len {w : World} {A : Option Addr} {n : Nat} {xs : List Int} (h : NumAt w A n xs) : n = xs.length := h.1
theorem NumAt.get {w : World} {A : Option Addr} {n : Nat} {xs : List Int} (h : NumAt w A n xs) {i : Nat} (hi : i < n) : ∃ b off x, A = some ⟨b, off, none⟩ ∧ xs[i]? = some x ∧ b < w.heap.size ∧ w.cell? ⟨b, off + i, none⟩ = some (.int .i64 x) := by
  obtain ⟨b, off, hA, hc⟩ := h.2.2 (by omega)
  have hl : i < xs.length := by have := h.1; omega
  have hc := hc i (.int .i64 xs[i]) (by simp [List.getElem?_eq_getElem hl])
  exact ⟨b, off, xs[i], hA, List.getElem?_eq_getElem hl, World.block_lt_of_cell? w _ hc, hc⟩
theorem NumAt.own {w : World} {base : Nat} {e : TypeId} {n c : Nat} {A : Option Addr} {xs : List Int} (h : w.ownsRow base e 1 (.slice A n c) n (xs.map (Value.int .i64))) : NumAt w A n xs := by
  have hs := Sl.own h
  refine ⟨?_, hs⟩
  have := hs.1
  rw [List.length_map] at this
  omega
theorem nums_one (xs : List Int) : OneCells (xs.map (Value.int .i64)) := fun v hv => by
  obtain ⟨x, _, rfl⟩ := List.mem_map.1 hv
  rfl
/-- the numbers are numbers of 64 bits -/
def wfI (xs : List Int) : Prop := ∀ x ∈ xs, -9223372036854775808 ≤ x ∧ x ≤ 9223372036854775807

theorem infoI : (Try.prog.info? 3).map (fun i => (i.zero, i.size, i.bytes)) = some (some (.int .i64 0), 1, 8) := by kernel_rfl
theorem sizeI : (Try.prog.info? 3).map (·.size) = some 1 := by kernel_rfl

set_option maxRecDepth 100000 in
theorem ints_any (xs : List Int) (A : Option Addr) (n c : Nat) (w : World) (ha : NumAt w A n xs) (hn : n ≤ 16777216) :
    Calls Try.prog 17 #[.slice A n c] w (RetOwn w 3 1 n (xs.map (Value.int .i64))) := by
  obtain ⟨i0, hi0, hz0, hz1, hz2⟩ := info_parts infoI
  have hmk := run_make_n (P := Try.prog) 23 3 i0 _ Try.underlying23 hi0 hz0 (by omega) .i64 .i64 n hn
  simp only [hz1] at hmk
  have Ha := hide ha; clear ha hz1 hz2 hz0 hi0
  have HC := hide (fun (i : Nat) (h : i = n * 1) => by
    have : (Value.int .i64 0).cells = #[.int .i64 0] := rfl
    exact this)
  clear HC
  go_enter Try.func17, Try.ntmps17
  go_wp2_with (refine wpList_copy_sl rfl (.tmp 7) (.tmp 8) 23 23 rfl 3 1 Try.underlying23 sizeI A w.heap.size 0 n n n c rfl rfl _ 3 (heap_alloc_new w _) (xs.map (Value.int .i64)) (Ha.out.ext (Ext.alloc w _)).2 (Nat.le_refl _) (by rw [size_madeCells, Nat.zero_add, Ha.out.2.1]; omega) (nums_one xs) w (Ext.alloc w _) (Nat.le_refl _) ?_; intro w1 hg1 hE1 hs1)
  go_ret
  refine ⟨_, _, rfl, ?_, hE1.out⟩
  have hl := Ha.out.2.1
  have hg := hg1.out
  rw [splice_all (by rw [Array.length_toList, size_madeCells]; omega)] at hg
  refine ⟨hl, .inr ⟨w.heap.size, n, _, rfl, Nat.le_refl _, hg, Nat.le_refl _, by unfold maxLen; omega, by simpa using hl, ?_⟩⟩
  exact List.take_of_length_le (Nat.le_of_eq hl)

def projGo (r : List V) : List Int → Option (List V)
  | [] => some []
  | c :: cols => if c < 0 ∨ (r.length : Int) ≤ c then none else (r[c.toNat]?).bind fun v => (projGo r cols).map (v :: ·)
def projR (r : List V) (cols : List Int) : List V × Int :=
  if 30 < cols.length then ([], 20) else match projGo r cols with
    | some l => (l, 0)
    | none => ([], 23)
theorem projGo_bad (r : List V) : ∀ (cols : List Int) (i : Nat) (c : Int), cols[i]? = some c → (c < 0 ∨ (r.length : Int) ≤ c) → projGo r cols = none
  | [], i, c, h, _ => by simp at h
  | x :: cols, 0, c, h, hc => by
    obtain rfl : x = c := by simpa using h
    simp [projGo, hc]
  | x :: cols, i + 1, c, h, hc => by
    have := projGo_bad r cols i c (by simpa using h) hc
    simp only [projGo, this]
    split
    · rfl
    · cases r[x.toNat]? <;> rfl
theorem projGo_snoc (r : List V) (c : Int) (v : V) (hc : ¬ (c < 0 ∨ (r.length : Int) ≤ c)) (hv : r[c.toNat]? = some v) : ∀ (cols : List Int) (l : List V), projGo r cols = some l → projGo r (cols ++ [c]) = some (l ++ [v])
  | [], l, h => by
    obtain rfl : [] = l := by simpa [projGo] using h
    simp [projGo, hc, hv]
  | x :: cols, l, h => by
    simp only [projGo, List.cons_append] at h ⊢
    split at h
    · cases h
    · rename_i hx
      rw [if_neg hx]
      cases hy : r[x.toNat]? with
      | none => rw [hy] at h; cases h
      | some y =>
        rw [hy] at h
        simp only [Option.bind_some, Option.map_eq_some_iff] at h ⊢
        obtain ⟨l', hl', rfl⟩ := h
        exact ⟨l' ++ [v], projGo_snoc r c v hc hv cols l' hl', rfl⟩
theorem projGo_len (r : List V) : ∀ (cols : List Int) (l : List V), projGo r cols = some l → l.length = cols.length
  | [], l, h => by
    obtain rfl : [] = l := by simpa [projGo] using h
    rfl
  | x :: cols, l, h => by
    simp only [projGo] at h
    split at h
    · cases h
    · cases hy : r[x.toNat]? with
      | none => rw [hy] at h; cases h
      | some y =>
        rw [hy] at h
        simp only [Option.bind_some, Option.map_eq_some_iff] at h
        obtain ⟨l', hl', rfl⟩ := h
        simp [projGo_len r cols l' hl']
theorem take_snoc' {α : Type} (xs : List α) (i : Nat) (x : α) (h : xs[i]? = some x) : xs.take (i + 1) = xs.take i ++ [x] := by
  rw [List.take_add_one, h]; rfl

/-- a row of the call's own and an error's number -/
def RetRowErr (w0 : World) (e : TypeId) (res : List V × Int) (en : Ending) (w' : World) : Prop :=
  ∃ A c, en = .returned (.tuple #[.slice A res.1.length c, .int .i64 res.2]) ∧ w'.ownsRow w0.heap.size e 3 (.slice A res.1.length c) res.1.length (cellsR res.1) ∧ Ext w0 w'
theorem ownsNil (w : World) (base : Nat) (e : TypeId) : w.ownsRow base e 3 (.slice none 0 0) 0 (cellsR []) := World.ownsRow_nil w base e 3

set_option maxRecDepth 100000 in
theorem proj_any (r : List V) (cols : List Int) (A B : Option Addr) (n m c d : Nat) (w : World) (ha : RowAt w A n r) (hb : NumAt w B m cols) (hn : n ≤ 1048576) (hm : m ≤ 1048576) :
    Calls Try.prog 80 #[.slice A n c, .slice B m d] w (RetRowErr w 59 (projR r cols)) := by
  have Ha := hide ha; have Hb := hide hb; have hl := hide (And.intro ha.len hb.len); clear ha hb
  obtain ⟨i0, hi0, hz0, hz1, hz2⟩ := info_parts infoV
  by_cases h30 : m ≤ 30
  · go_enter Try.func80, Try.ntmps80
    go_wp2
    go_loopw [4, 5, 6, 8, 14] (fun _ _ o _ k w' => ∃ (i : Nat) (A' : Option Addr) (c' : Nat), i ≤ m ∧ k = .int .i64 i ∧ o = .slice A' i c' ∧ Hid (∃ l, projGo r (cols.take i) = some l ∧ w'.ownsRow w.heap.size 59 3 (.slice A' i c') i (cellsR l)) ∧ Hid (Ext w w')) (fun _ _ _ _ k _ => m - (intOf k).toNat)
    case atStart => exact ⟨0, none, 0, by omega, rfl, rfl, ⟨[], rfl, ownsNil _ _ _⟩, Ext.refl _⟩
    case round =>
      obtain ⟨i, A', c', him, rfl, rfl, ho, hw⟩ := hrel
      by_cases h : i < m
      · obtain ⟨b', off', x, rfl, hx, hb2, d0⟩ := (Hb.out.ext hw.out).get h
        have Hx := hide hx; clear hx
        have hi0' : (0 : Int) ≤ (i : Int) := by omega
        have hi1' : (i : Int) < (m : Int) := by omega
        by_cases hbad : x < 0 ∨ (n : Int) ≤ x
        · have hp := hide (projGo_bad r cols i x Hx.out (by have := hl.out.1; omega))
          rcases hbad with hbad | hbad
          · go_wp2_with fail
            go_ret2
            exact ⟨none, 0, by rw [projR, if_neg (by have := hl.out.2; omega), hp.out]; rfl, by rw [projR, if_neg (by have := hl.out.2; omega), hp.out]; exact ownsNil _ _ _, hw.out⟩
          · have hx0 : ¬ x < 0 := by omega
            go_wp2_with fail
            go_ret2
            exact ⟨none, 0, by rw [projR, if_neg (by have := hl.out.2; omega), hp.out]; rfl, by rw [projR, if_neg (by have := hl.out.2; omega), hp.out]; exact ownsNil _ _ _, hw.out⟩
        · obtain ⟨j, rfl⟩ := Int.eq_ofNat_of_zero_le (show 0 ≤ x by omega)
          have hj : j < n := by omega
          have hj1 : (j : Int) < (n : Int) := by omega
          have hj0 : (0 : Int) ≤ (j : Int) := by omega
          clear hbad
          obtain ⟨b, off, v, rfl, hv, hb1, c0, c1, c2⟩ := (Ha.out.ext hw.out).get hj
          have Hv := hide hv; clear hv
          obtain ⟨l, hl1, hown⟩ := ho.out
          have Hl := hide hl1; have Hown := hide hown; clear hl1 hown
          have Hsrc := hide (RowAt.lit wr [v] 59).2
          go_wp2_with (at_builtin; refine wpList_append_sl rfl (.tmp 26) (.tmp 31) _ rfl 59 i0 _ 3 32 Try.underlying62 hi0 hz0 hz1 hz2 rfl (by omega) w (hw.out.trans (Ext.alloc _ _)) _ i (cellsR l) rfl (Hown.out.alloc _) _ 1 1 (cellsR [v]) rfl Hsrc.out (cellsR_one _) (by unfold maxLen; omega) (by omega) ?_; intro A8 c8 w8 own8 E8 _ _)
          go_roundw
          case rel => exact ⟨i + 1, A8, c8, by omega, by go_num, rfl, ⟨l ++ [v], by rw [take_snoc' cols i _ Hx.out]; exact projGo_snoc r j v (by have := hl.out.1; omega) Hv.out _ _ Hl.out, by rw [cellsR_append]; exact own8.out⟩, E8.out⟩
          case measure => simp [intOf]; omega
      · go_wp2_with fail
        go_ret2
        obtain ⟨l, hl1, hown⟩ := ho.out
        have him' : i = m := by omega
        rw [List.take_of_length_le (by have := hl.out.2; omega)] at hl1
        have hlen := projGo_len r cols l hl1
        have e : i = l.length := by have := hl.out.2; omega
        have ep : projR r cols = (l, 0) := by rw [projR, if_neg (by have := hl.out.2; omega), hl1]
        rw [ep]
        refine ⟨A', c', ?_, ?_, hw.out⟩
        · rw [e]; rfl
        · rw [e] at hown; exact hown
  · go_enter Try.func80, Try.ntmps80
    go_wp2
    go_ret2
    exact ⟨none, 0, by rw [projR, if_pos (by have := hl.out.2; omega)]; rfl, by rw [projR, if_pos (by have := hl.out.2; omega)]; exact ownsNil _ _ _, Ext.refl _⟩
end Go.Proofs.Ytahdiiaadjdmcaa
