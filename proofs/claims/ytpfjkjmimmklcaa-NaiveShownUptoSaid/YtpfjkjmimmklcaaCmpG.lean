/-
  
  
-/
import Derived.Test.YtpfjkjmimmklcaaGround
import Derived.Test.YtpfjkjmimmklcaaShelf
namespace Go.Proofs.Ytpfjkjmimmklcaa
open Go.RowKit

theorem cmp_kind (a b : Int) (w : World) : Calls Try.prog 115 #[.int .i64 a, .int .i64 b] w fun e w' => e = .returned (.int .i64 (cmpI a b)) ∧ w = w' := by
  unfold cmpI
  go_enter Try.func115, Try.ntmps115
  go_wp2
  all_goals go_ret
  all_goals simp [*]
theorem cmp_int64 (a b : Int) (w : World) : Calls Try.prog 116 #[.int .i64 a, .int .i64 b] w fun e w' => e = .returned (.int .i64 (cmpI a b)) ∧ w = w' := by
  unfold cmpI
  go_enter Try.func116, Try.ntmps116
  go_wp2
  all_goals go_ret
  all_goals simp [*]
theorem cmp_str (a b : ByteArray) (w : World) : Calls Try.prog 117 #[.string a, .string b] w fun e w' => e = .returned (.int .i64 (cmpB a b)) ∧ w = w' :=
  (Try.strings_Compare a b w).mono fun _ _ h => ⟨h.1, h.2.symm⟩

theorem orI_drop (xs : List Int) (k : Nat) (x : Int) (hx : xs[k]? = some x) : orI (xs.drop k) = if x = 0 then orI (xs.drop (k + 1)) else x := by
  have hl : k < xs.length := by rw [List.getElem?_eq_some_iff] at hx; exact hx.1
  rw [List.drop_eq_getElem_cons hl]
  rw [List.getElem?_eq_getElem hl] at hx
  injection hx with hx
  rw [hx]; rfl

theorem or_any (b off n c : Nat) (xs : List Int) (w : World) (hn : xs.length = n) (hm : n ≤ 1000) (hc : ∀ (i : Nat) (x : Int), xs[i]? = some x → w.cell? ⟨b, off + i, none⟩ = some (.int .i64 x)) :
    Calls Try.prog 114 #[.slice (some ⟨b, off, none⟩) n c] w fun e w' => e = .returned (.int .i64 (orI xs)) ∧ w = w' := by
  have Hn := hide hn; clear hn
  go_enter Try.func114, Try.ntmps114
  go_wp2
  go_loop [5, 8] (fun _ i => ∃ k : Nat, k ≤ n ∧ i = .int .i64 k ∧ Hid (orI xs = orI (xs.drop k))) (fun _ i => n - (intOf i).toNat)
  case atStart => exact ⟨0, by omega, rfl, rfl⟩
  case round =>
    obtain ⟨k, hk, rfl, ho⟩ := hrel
    by_cases h : k < n
    · obtain ⟨x, hx⟩ : ∃ x, xs[k]? = some x := ⟨_, List.getElem?_eq_getElem (by rw [Hn.out]; exact h)⟩
      have hcell := hc k x hx
      have hd := hide (orI_drop xs k x hx)
      clear hc hx
      by_cases hx0 : x = 0
      · subst hx0
        go_wp2
        go_round
        case rel => exact ⟨k + 1, by omega, by go_num, by rw [Hid, ho.out, hd.out]; rfl⟩
        case measure => simp [intOf]; omega
      · have hb : (x != 0) = true := by simpa using hx0
        go_wp2
        go_ret
        exact ⟨ret_int (by rw [ho.out, hd.out, if_neg hx0]), rfl⟩
    · go_wp2
      go_ret
      exact ⟨ret_int (by rw [ho.out, List.drop_of_length_le (by rw [Hn.out]; omega)]; rfl), rfl⟩
end Go.Proofs.Ytpfjkjmimmklcaa

namespace Go.Proofs.Ytpfjkjmimmklcaa
open Go.RowKit


def IntsAt (xs : List Int) (v : Value) (w : World) : Prop := ∃ b, v = .slice (some ⟨b, 0, none⟩) xs.length xs.length ∧ ∀ (i : Nat) (x : Int), xs[i]? = some x → w.cell? ⟨b, i, none⟩ = some (.int .i64 x)
theorem IntsAt.stable {xs : List Int} {v : Value} {w w' : World} (hw : Ext w w') (h : IntsAt xs v w) : IntsAt xs v w' := by
  obtain ⟨b, hv, hc⟩ := h
  exact ⟨b, hv, fun i x hx => hw.cell (hc i x hx)⟩

theorem IntsAt.new (w : World) (xs : List Int) (t : TypeId) : IntsAt xs (.slice (some ⟨w.heap.size, 0, none⟩) xs.length xs.length) (w.alloc (.cells (xs.map (Value.int .i64)).toArray t)) :=
  ⟨w.heap.size, rfl, fun i x hx => CellsAt.new w (xs.map (Value.int .i64)) t (0, 0) i _ (by simp [hx])⟩

set_option maxRecDepth 100000 in
theorem val_cmp (a b : V) (w : World) : Calls Try.prog 91 #[a.val, b.val] w fun e w' => e = .returned (.int .i64 (cmpV a b)) ∧ Ext w w' := by
  obtain ⟨ak, ai, at_⟩ := a
  obtain ⟨bk, bi, bt⟩ := b
  simp only [V.val]
  go_enter Try.func91, Try.ntmps91
  go_wp2_with fail
  have ca := CellsAt.new w [.int .i64 ak, .int .i64 ai, .string at_] 58 (0, 0)
  have cb := CellsAt.new (w.alloc (Obj.cells #[.int .i64 ak, .int .i64 ai, .string at_] 58)) [.int .i64 bk, .int .i64 bi, .string bt] 58 (0, 0)
  have ca' := ca.ext (Ext.alloc _ (Obj.cells #[.int .i64 bk, .int .i64 bi, .string bt] 58))
  have HE := hide ((Ext.alloc w (Obj.cells #[.int .i64 ak, .int .i64 ai, .string at_] 58)).alloc' (Obj.cells #[.int .i64 bk, .int .i64 bi, .string bt] 58))
  rw [World.size_alloc] at cb
  generalize ((w.alloc (Obj.cells #[.int .i64 ak, .int .i64 ai, .string at_] 58)).alloc (Obj.cells #[.int .i64 bk, .int .i64 bi, .string bt] 58)) = w0 at *
  have c0 := cell_ext (ca' 0 _ rfl)
  have c1 := cell_ext (ca' 1 _ rfl)
  have c2 := cell_ext (ca' 2 _ rfl)
  have d0 := cell_ext (cb 0 _ rfl)
  have d1 := cell_ext (cb 1 _ rfl)
  have d2 := cell_ext (cb 2 _ rfl)
  clear ca ca' cb
  refine wp_region_ext 18 (by kernel_rfl) (by kernel_rfl) (by kernel_rfl) ?_
  iterate 15
    refine wpE_k (by kernel_rfl) (by kernel_rfl) ?_
    apply Exists.intro
    refine ⟨fun w1 hw1 => ?_, fun K hK => ?_⟩
    · go_simp; first | done | rfl | exact sameCall (cmp_kind _ _ _) | exact sameCall (cmp_int64 _ _ _) | exact sameCall (cmp_str _ _ _)
    go_simp; refine hK _ _ ?_; clear hK K
  refine wpE_p [] (IntsAt [cmpI ak bk, cmpI ai bi, cmpB at_ bt]) (fun u w w' _ h1 h2 => h2.stable h1) rfl (by kernel_rfl) (fun w1 hw1 => ?_) ?_
  · simp only [LookQ]
    clear c0 c1 c2 d0 d1 d2
    go_simp
    exact ⟨Ext.alloc _ _, IntsAt.new _ _ _⟩
  refine wpE_kp [20] (.int .i64 (cmpV ⟨ak, ai, at_⟩ ⟨bk, bi, bt⟩)) (by kernel_rfl) (by kernel_rfl) (fun w1 hw1 => ?_) (fun K hK => ?_)
  · simp only [LookQ]
    intro u hu
    obtain ⟨b, rfl, hc⟩ := hu _ rfl
    clear hu c0 c1 c2 d0 d1 d2
    go_simp
    refine ⟨Ext.refl _, sameCall (or_any b 0 3 3 _ w1 rfl (by omega) (fun i x hx => by rw [Nat.zero_add]; exact hc i x hx))⟩
  clear c0 c1 c2 d0 d1 d2
  go_simp; refine hK _ _ ?_; clear hK K
  refine wpE_k (by kernel_rfl) (by kernel_rfl) ?_
  apply Exists.intro
  refine ⟨fun w1 hw1 => ?_, fun K hK => ?_⟩
  · go_simp; rfl
  go_simp; refine hK _ _ ?_; clear hK K
  refine wpE_nil ⟨rfl, by kernel_rfl, fun w1 hw1 => ?_⟩
  simp only [EndQ]
  intro u hu
  refine wpList_nil ?_
  have HF := hide (HE.out.trans hw1)
  clear hu hw1 HE
  go_wp2
  go_ret
  exact ⟨rfl, HF.out⟩

def Row2At (w : World) (A : Option Addr) (n : Nat) (r : List V) : Prop := RowAt w A n r ∧ n ≤ 140737488355328

theorem cmpR_drop (as_ bs : List V) (k : Nat) (a b : V) (ha : as_[k]? = some a) (hb : bs[k]? = some b) : cmpR (as_.drop k) (bs.drop k) = if cmpV a b = 0 then cmpR (as_.drop (k + 1)) (bs.drop (k + 1)) else cmpV a b := by
  rw [List.getElem?_eq_some_iff] at ha hb
  obtain ⟨ha, ea⟩ := ha
  obtain ⟨hb, eb⟩ := hb
  rw [List.drop_eq_getElem_cons ha, List.drop_eq_getElem_cons hb, ea, eb]; rfl
theorem cmpR_left (as_ bs : List V) (k : Nat) (a : V) (ha : as_[k]? = some a) (hb : bs.length ≤ k) : cmpR (as_.drop k) (bs.drop k) = 1 := by
  rw [List.getElem?_eq_some_iff] at ha
  obtain ⟨ha, ea⟩ := ha
  rw [List.drop_eq_getElem_cons ha, List.drop_of_length_le hb]; rfl
theorem cmpR_end (as_ bs : List V) (k : Nat) (ha : as_.length ≤ k) (hb : k ≤ bs.length) : cmpR (as_.drop k) (bs.drop k) = if k < bs.length then -1 else 0 := by
  rw [List.drop_of_length_le ha]
  split
  · rename_i h; rw [List.drop_eq_getElem_cons h]; rfl
  · rename_i h; rw [List.drop_of_length_le (by omega)]; rfl

set_option maxRecDepth 100000 in
theorem cmp_func (as_ bs : List V) (A B : Option Addr) (n m c d : Nat) (w : World) (ha : RowAt w A n as_) (hb : RowAt w B m bs) (hn : n ≤ 140737488355328) (hm : m ≤ 140737488355328) :
    Calls Try.prog 90 #[.slice A n c, .slice B m d, .func (.func 91) #[] #[]] w fun e w' => e = .returned (.int .i64 (cmpR as_ bs)) ∧ Ext w w' := by
  have Ha := hide ha; have Hb := hide hb; clear ha hb
  go_enter Try.func90, Try.ntmps90
  go_wp2
  go_loopw [6, 7, 8, 9, 10, 13] (fun _ _ _ _ _ k w' => ∃ i : Nat, i ≤ n ∧ i ≤ m ∧ k = .int .i64 i ∧ Hid (cmpR as_ bs = cmpR (as_.drop i) (bs.drop i)) ∧ Hid (Ext w w')) (fun _ _ _ _ _ k _ => n - (intOf k).toNat)
  case atStart => exact ⟨0, by omega, by omega, rfl, rfl, Ext.refl _⟩
  case round =>
    obtain ⟨i, hin, him, rfl, ho, hw⟩ := hrel
    by_cases h : i < n
    · obtain ⟨b, off, x, rfl, hx, hb1, c0, c1, c2⟩ := (Ha.out.ext hw.out).get h
      have Hx := hide hx; clear hx
      by_cases h2 : i < m
      · obtain ⟨b', off', y, rfl, hy, hb2, d0, d1, d2⟩ := (Hb.out.ext hw.out).get h2
        have hd := hide (cmpR_drop as_ bs i x y Hx.out hy); clear hy
        go_wp2_with fail
        refine (val_cmp x y _).mono ?_
        rintro e w1 ⟨rfl, hw1⟩
        have HF := hide (((hw.out.trans (Ext.alloc _ _)).trans (Ext.alloc _ _)).trans hw1)
        clear hw1 c0 c1 c2 d0 d1 d2 hw hb1 hb2
        by_cases hz : cmpV x y = 0
        · have hz1 : (cmpV x y != 0) = false := by rw [hz]; rfl
          have Hz := hide hz; clear hz
          go_wp2_with fail
          go_roundw
          case rel => exact ⟨i + 1, by omega, by omega, by go_num, by rw [Hid, ho.out, hd.out, if_pos Hz.out], HF.out⟩
          case measure => simp [intOf]; omega
        · have hz1 : (cmpV x y != 0) = true := by simpa using hz
          have Hz := hide hz; clear hz
          go_wp2_with fail
          go_ret
          exact ⟨ret_int (by rw [ho.out, hd.out, if_neg Hz.out]), HF.out⟩
      · have hd := hide (cmpR_left as_ bs i x Hx.out (by have := Hb.out.len; omega))
        go_wp2_with fail
        go_ret
        exact ⟨ret_int (by rw [ho.out, hd.out]), (hw.out.trans (Ext.alloc _ _))⟩
    · have hd := hide (cmpR_end as_ bs i (by have := Ha.out.len; omega) (by have := Hb.out.len; omega))
      have hlen := Hb.out.len
      by_cases h2 : n < m
      · clear hlen
        go_wp2_with fail
        go_ret
        exact ⟨ret_int (by rw [ho.out, hd.out, if_pos (by have := Hb.out.len; omega)]), hw.out⟩
      · clear hlen
        go_wp2_with fail
        go_ret
        exact ⟨ret_int (by rw [ho.out, hd.out, if_neg (by have := Hb.out.len; omega)]), hw.out⟩

theorem row_cmp (as_ bs : List V) (A B : Option Addr) (n m c d : Nat) (w : World) (ha : RowAt w A n as_) (hb : RowAt w B m bs) (hn : n ≤ 140737488355328) (hm : m ≤ 140737488355328) :
    Calls Try.prog 57 #[.slice A n c, .slice B m d] w fun e w' => e = .returned (.int .i64 (cmpR as_ bs)) ∧ Ext w w' := by
  have H := hide (cmp_func as_ bs A B n m c d w ha hb hn hm)
  clear ha hb
  go_enter Try.func57, Try.ntmps57
  go_wp2_with fail
  refine H.out.mono ?_
  rintro e w1 ⟨rfl, hw1⟩
  have HF := hide hw1; clear hw1
  go_wp2_with fail
  go_ret
  exact ⟨rfl, HF.out⟩
end Go.Proofs.Ytpfjkjmimmklcaa
