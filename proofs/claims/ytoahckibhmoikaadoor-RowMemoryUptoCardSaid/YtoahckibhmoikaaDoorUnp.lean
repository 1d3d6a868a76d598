import Derived.Test.YtoahckibhmoikaaDoorUnpOne
namespace Go.Proofs.YtoahckibhmoikaaDoor
open Go.RowKit

def OwnR (w0 w : World) (A : Option Addr) (n c : Nat) (l : List V) : Prop := n = l.length ∧ w.ownsRow w0.heap.size 54 3 (.slice A n c) n (cellsR l)
theorem app_row {w : World} {ops : Array Oper} {rest : List Oper} {o : Oper} {a : Act} {Q : Exit → Act → World → Prop} (hgd : o.guard = none) (s x : Operand)
    (ho : o.op = .call { callee := .builtin .append, args := #[s, x], argTypes := #[23, 23] })
    (w0 : World) (hE : Ext w0 w) (A : Option Addr) (n c : Nat) (l : List V) (hs : a.eval s = .slice A n c) (hown : OwnR w0 w A n c l)
    (A2 : Option Addr) (m c2 : Nat) (news : List V) (hx : a.eval x = .slice A2 m c2) (hr : Sl w A2 m 3 (cellsR news)) (hm : n + m ≤ 1048576)
    (h : ∀ A' c' w', Hid (OwnR w0 w' A' (n + m) c' (l ++ news)) → Hid (Ext w0 w') → Hid (w.grownBy w' (Value.slice A n c).ownBlock) → wpList Tryd.prog ops Q rest (a.put o.dst (.slice A' (n + m) c')) w') : wpList Tryd.prog ops Q (o :: rest) a w := by
  obtain ⟨i0, hi0, hz0, hz1, hz2⟩ := info_parts infoV
  refine wpList_append_sl hgd s x _ ho 54 i0 _ 3 32 Tryd.underlying23 hi0 hz0 hz1 hz2 rfl (by omega) w0 hE _ n (cellsR l) hs hown.2 A2 m c2 (cellsR news) hx hr (cellsR_one _) (by unfold maxLen; omega) (by omega) ?_
  intro A' c' w' h1 h2 h3 _
  refine h A' c' w' ⟨?_, by rw [cellsR_append]; exact h1.out⟩ h2 h3
  have := hr.1; rw [cellsR_len] at this
  rw [List.length_append, ← hown.1]; omega
theorem OwnR.alloc {w0 w : World} {A : Option Addr} {n c : Nat} {l : List V} (h : OwnR w0 w A n c l) (o : Obj) : OwnR w0 (w.alloc o) A n c l := ⟨h.1, h.2.alloc o⟩
theorem OwnB.alloc {w0 w : World} {A : Option Addr} {n c : Nat} {l : List UInt8} (h : OwnB w0 w A n c l) (o : Obj) : OwnB w0 (w.alloc o) A n c l := ⟨h.1, h.2.alloc o⟩
theorem own_ext {w w' : World} {base size n : Nat} {e : TypeId} {v : Value} {xs : List Value} (h : w.ownsRow base e size v n xs) (hE : Ext w w') : w'.ownsRow base e size v n xs := by
  refine ⟨h.1, ?_⟩
  rcases h.2 with h0 | ⟨g, cap, cur, hv, hbs, hh, hr⟩
  · exact .inl h0
  · exact .inr ⟨g, cap, cur, hv, hbs, Blk.ext (cs := cur) hh hE, hr⟩
theorem OwnR.ext {w0 w w' : World} {A : Option Addr} {n c : Nat} {l : List V} (h : OwnR w0 w A n c l) (hE : Ext w w') : OwnR w0 w' A n c l := ⟨h.1, own_ext h.2 hE⟩
theorem OwnB.ext {w0 w w' : World} {A : Option Addr} {n c : Nat} {l : List UInt8} (h : OwnB w0 w A n c l) (hE : Ext w w') : OwnB w0 w' A n c l := ⟨h.1, own_ext h.2 hE⟩
theorem row_lit (w : World) (l : List V) (t : TypeId) (g : Nat) (hg : w.heap.size = g) : Sl (w.alloc (.cells (cellsR l).toArray t)) (some ⟨g, 0, none⟩) l.length 3 (cellsR l) := by
  subst hg; exact (RowAt.lit w l t).2
def lenV : Value → Nat
  | .slice _ n _ => n
  | _ => 0
theorem one_step (b : List UInt8) (v : V) (n : Nat) (k : Nat) (h : one b = some (v, n)) (hb : b ≠ []) : decGo (k + 1) b = (decGo k (b.drop n)).map (v :: ·) := by
  cases b with
  | nil => exact absurd rfl hb
  | cons x l => simp only [decGo, h]
theorem none_step (b : List UInt8) (k : Nat) (h : one b = none) (hb : b ≠ []) : decGo k b = none := by
  cases b with
  | nil => exact absurd rfl hb
  | cons x l => cases k <;> simp only [decGo, h]
theorem zero_step (b : List UInt8) (hb : b ≠ []) : decGo 0 b = none := by
  cases b with
  | nil => exact absurd rfl hb
  | cons x l => rfl
theorem BytesAt.drop {w : World} {b0 off n : Nat} {b : List UInt8} (h : BytesAt w (some ⟨b0, off, none⟩) n b) (k : Nat) (hk : k ≤ n) : BytesAt w (some ⟨b0, off + k, none⟩) (n - k) (b.drop k) := by
  have hl := h.len
  refine ⟨by rw [bcells_len, List.length_drop]; omega, fun hn => ⟨b0, off + k, rfl, fun j u hu => ?_⟩⟩
  obtain ⟨b1, off1, hA, hc⟩ := h.2 (by omega)
  cases hA
  rw [Nat.add_assoc]
  refine hc (k + j) u ?_
  rw [bcells, List.map_drop, List.getElem?_drop] at hu
  exact hu

set_option maxRecDepth 100000 in
set_option maxHeartbeats 1000000 in
theorem row_unpack (b : List UInt8) (A : Option Addr) (n c : Nat) (w : World) (ha : BytesAt w A n b) (hn : n ≤ 1048576) (hc : n ≤ c) :
    Calls Tryd.prog 29 #[.slice A n c] w (RetRowErr w 54 (decR b)) := by
  have Ha := hide ha; clear ha
  go_enter Tryd.func29, Tryd.ntmps29
  go_wp2_with fail
  go_loopw [0, 4] (fun bb rr w' => ∃ (q cb m : Nat) (Ab A' : Option Addr) (c' : Nat) (bq : List UInt8) (r : List V), q ≤ n ∧ q ≤ cb ∧ bb = .slice Ab q cb ∧ rr = .slice A' m c' ∧ m ≤ 30 ∧ Hid (BytesAt w Ab q bq) ∧ Hid (OwnR w w' A' m c' r) ∧ Hid (Ext w w') ∧ Hid (decGo 30 b = (decGo (30 - m) bq).map (r ++ ·))) (fun bb _ _ => lenV bb)
  case atStart => exact ⟨n, c, 0, A, none, 0, b, [], by omega, hc, rfl, rfl, by omega, Ha.out, ⟨rfl, ownsNil _ _ _⟩, Ext.refl _, by show _ = _; cases decGo 30 b <;> rfl⟩
  case round =>
    obtain ⟨q, cb, m, Ab, A', c', bq, r, hqn, hqc, rfl, rfl, hm, hb, ho, hw, hD⟩ := hrel
    by_cases hq : 0 < q
    · have hbl := hide hb.out.len
      have hne := hide (show bq ≠ [] from fun e => by rw [e] at hbl; have := hbl.out; simp at this; omega)
      have HU := hide (unpack_one bq Ab q cb wr (hb.out.ext hw.out) (by omega) hqc hq)
      obtain ⟨b0, off, _, rfl, _, _, _⟩ := hb.out.get hq
      cases ho1 : one bq with
      | none =>
        have e : oneRes bq = (⟨0, 0, ByteArray.empty⟩, 0) := by rw [oneRes, ho1]; rfl
        have hdn : Hid (decR b = ([], 22)) := by
          have h1 := hD.out
          rw [none_step bq _ ho1 hne.out] at h1
          show decR b = _
          rw [decR, h1]; rfl
        rw [e] at HU
        clear e ho1
        go_wp2_with fail
        refine HU.out.mono ?_
        rintro e w1 ⟨rfl, h1⟩
        have E1 := hide (hw.out.trans h1); clear h1
        simp only [V.val]
        go_wp2_with fail
        go_ret2
        exact ⟨none, 0, by rw [hdn.out]; rfl, by rw [hdn.out]; exact ownsNil _ _ _, E1.out.trans (Ext.alloc _ _)⟩
      | some p =>
        obtain ⟨v, nn⟩ := p
        have e : oneRes bq = (v, nn) := by rw [oneRes, ho1]; rfl
        rw [e] at HU
        obtain ⟨p1, p2, p3, p4, p5⟩ := one_back bq v nn ho1
        have hnn : nn ≤ q := by have := hbl.out; omega
        have hst := fun k => hide (one_step bq v nn k ho1 hne.out)
        clear e ho1 p1 p2 p3 p4
        obtain ⟨vk, vi, vt⟩ := v
        by_cases h30 : m = 30
        · subst h30
          have hdn : Hid (decR b = ([], 22)) := by
            have h1 := hD.out
            rw [show 30 - 30 = 0 from rfl, zero_step bq hne.out] at h1
            show decR b = _
            rw [decR, h1]; rfl
          go_wp2_with fail
          refine HU.out.mono ?_
          rintro e w1 ⟨rfl, h1⟩
          have E1 := hide (hw.out.trans h1); clear h1
          simp only [V.val]
          go_wp2_with fail
          go_ret2
          exact ⟨none, 0, by rw [hdn.out]; rfl, by rw [hdn.out]; exact ownsNil _ _ _, E1.out.trans (Ext.alloc _ _)⟩
        · have hnm : ((m : Int) == 30) = false := by simp; omega
          have hn0 : ((nn : Int) == 0) = false := by simp; omega
          go_wp2_with fail
          refine HU.out.mono ?_
          rintro e w1 ⟨rfl, h1⟩
          have E1 := hide (hw.out.trans h1)
          have ho1 := hide ((ho.out.ext h1).alloc (.cells #[.int .i64 vk, .int .i64 vi, .string vt] 54))
          clear h1 ho
          have hs1 := hide (row_lit (w1.alloc (.cells #[.int .i64 vk, .int .i64 vi, .string vt] 54)) [⟨vk, vi, vt⟩] 54 (w1.heap.size + 1) (alloc_size _ _))
          simp only [V.val]
          have hnn0 : (0 : Int) ≤ (nn : Int) := by omega
          have hnnq : (nn : Int) ≤ (q : Int) := by omega
          go_wp2_with (at_builtin; refine app_row rfl (.tmp 22) (.tmp 24) rfl w ((E1.out.trans (Ext.alloc _ _)).trans (Ext.alloc _ _)) _ m _ r rfl (ho1.out.alloc _) _ 1 1 [⟨vk, vi, vt⟩] rfl hs1.out (by omega) ?_; intro A4 c4 w4 own4 E4 _)
          go_roundw
          case rel =>
            have hb' : BytesAt w (if cb = nn then some ⟨b0, off, none⟩ else some ⟨b0, off + nn, none⟩) (q - nn) (bq.drop nn) := by
              split
              · have e0 : q - nn = 0 := by omega
                have h1 := (hb.out.drop nn hnn).1
                rw [e0] at h1 ⊢
                exact ⟨h1, fun h => absurd h (by omega)⟩
              · exact hb.out.drop nn hnn
            refine ⟨q - nn, cb - nn, m + 1, _, A4, c4, bq.drop nn, r ++ [(⟨vk, vi, vt⟩ : V)], by omega, by omega, rfl, rfl, by omega, hb', own4.out, E4.out, ?_⟩
            show _ = _
            rw [hD.out, show 30 - m = (30 - (m + 1)) + 1 by omega, (hst _).out]
            cases decGo (30 - (m + 1)) (bq.drop nn) <;> simp
          case measure =>
            show q - nn < q
            omega
    · go_wp2_with fail
      go_ret2
      have hbl := hb.out.len
      have e : bq = [] := List.eq_nil_of_length_eq_zero (by omega)
      have hd : decR b = (r, 0) := by
        have h1 := hD.out
        rw [e] at h1
        have h2 : decGo (30 - m) [] = some [] := by cases 30 - m <;> rfl
        rw [h2] at h1
        rw [decR, h1]; simp
      rw [hd]
      obtain ⟨h10, h11⟩ := ho.out
      subst h10
      exact ⟨A', c', rfl, h11, hw.out⟩
end Go.Proofs.YtoahckibhmoikaaDoor
