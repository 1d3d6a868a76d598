import Derived.Test.YtoahckibhmoikaaDoorGround
import Derived.Test.YtoahckibhmoikaaDoorShelf
namespace Go.Proofs.YtoahckibhmoikaaDoor
open Go.RowKit

theorem cmp_kind (a b : Int) (w : World) : Calls Tryd.prog 64 #[.int .i64 a, .int .i64 b] w fun e w' => e = .returned (.int .i64 (cmpI a b)) ∧ w = w' := by
  unfold cmpI
  go_enter Tryd.func64, Tryd.ntmps64
  go_wp2
  all_goals go_ret
  all_goals simp [*]
theorem cmp_int64 (a b : Int) (w : World) : Calls Tryd.prog 65 #[.int .i64 a, .int .i64 b] w fun e w' => e = .returned (.int .i64 (cmpI a b)) ∧ w = w' := by
  unfold cmpI
  go_enter Tryd.func65, Tryd.ntmps65
  go_wp2
  all_goals go_ret
  all_goals simp [*]
theorem cmp_str (a b : ByteArray) (w : World) : Calls Tryd.prog 66 #[.string a, .string b] w fun e w' => e = .returned (.int .i64 (cmpB a b)) ∧ w = w' :=
  (Tryd.strings_Compare a b w).mono fun _ _ h => ⟨h.1, h.2.symm⟩

theorem orI_drop (xs : List Int) (k : Nat) (x : Int) (hx : xs[k]? = some x) : orI (xs.drop k) = if x = 0 then orI (xs.drop (k + 1)) else x := by
  have hl : k < xs.length := by rw [List.getElem?_eq_some_iff] at hx; exact hx.1
  rw [List.drop_eq_getElem_cons hl]
  rw [List.getElem?_eq_getElem hl] at hx
  injection hx with hx
  rw [hx]; rfl

theorem or_any (b off n c : Nat) (xs : List Int) (w : World) (hn : xs.length = n) (hm : n ≤ 1000) (hc : ∀ (i : Nat) (x : Int), xs[i]? = some x → w.cell? ⟨b, off + i, none⟩ = some (.int .i64 x)) :
    Calls Tryd.prog 63 #[.slice (some ⟨b, off, none⟩) n c] w fun e w' => e = .returned (.int .i64 (orI xs)) ∧ w = w' := by
  have Hn := hide hn; clear hn
  go_enter Tryd.func63, Tryd.ntmps63
  go_wp2
  go_loop [5, 8] (fun _ i => ∃ k : Nat, k ≤ n ∧ i = .int .i64 k ∧ Hid (orI xs = orI (xs.drop k))) (fun _ i => n - (intOf i).toNat)
  case atStart => exact ⟨0, by omega, rfl, rfl⟩
  case round =>
    obtain ⟨k, hk, rfl, ho⟩ := hrel
    by_cases h : k < n
    · obtain ⟨x, hx⟩ : ∃ x, xs[k]? = some x := ⟨_, List.getElem?_eq_getElem (by rw [Hn.out]; exact h)⟩
      have hcell := hc k x hx
      have hd := hide (orI_drop xs k x hx)
      clear hc hx
      by_cases hx0 : x = 0
      · subst hx0
        go_wp2
        go_round
        case rel => exact ⟨k + 1, by omega, by go_num, by rw [Hid, ho.out, hd.out]; rfl⟩
        case measure => simp [intOf]; omega
      · have hb : (x != 0) = true := by simpa using hx0
        go_wp2
        go_ret
        exact ⟨ret_int (by rw [ho.out, hd.out, if_neg hx0]), rfl⟩
    · go_wp2
      go_ret
      exact ⟨ret_int (by rw [ho.out, List.drop_of_length_le (by rw [Hn.out]; omega)]; rfl), rfl⟩
end Go.Proofs.YtoahckibhmoikaaDoor
