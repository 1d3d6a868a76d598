/-
  Lists of rows: are they the same; a copy of them.
-/
import Derived.Test.YtoahckibhmoikaaDoorGround
import Derived.Test.YtoahckibhmoikaaDoorSame
namespace Go.Proofs.YtoahckibhmoikaaDoor
open Go.RowKit

def sameRs : List (List V) → List (List V) → Bool
  | [], [] => true
  | [], _ :: _ => false
  | _ :: _, [] => false
  | a :: l, b :: m => sameR a b && sameRs l m
theorem sameRs_iff : ∀ {r s : List (List V)}, sameRs r s = true ↔ r = s
  | [], [] => by simp [sameRs]
  | [], _ :: _ => by simp [sameRs]
  | _ :: _, [] => by simp [sameRs]
  | a :: r, b :: s => by simp [sameRs, sameR_iff, sameRs_iff]
theorem sameRs_len {r s : List (List V)} (h : r.length ≠ s.length) : sameRs r s = false := by
  cases he : sameRs r s with
  | false => rfl
  | true => exact absurd (congrArg List.length (sameRs_iff.1 he)) h
theorem sameRs_drop (r s : List (List V)) (k : Nat) (a b : List V) (ha : r[k]? = some a) (hb : s[k]? = some b) : sameRs (r.drop k) (s.drop k) = (sameR a b && sameRs (r.drop (k + 1)) (s.drop (k + 1))) := by
  rw [List.getElem?_eq_some_iff] at ha hb
  obtain ⟨ha, ea⟩ := ha
  obtain ⟨hb, eb⟩ := hb
  rw [List.drop_eq_getElem_cons ha, List.drop_eq_getElem_cons hb, ea, eb]; rfl
theorem LAt.row_ {w : World} {A : Option Addr} {n : Nat} {xs : List (List V)} (h : LAt RRow 1 w A n xs) {i : Nat} (hi : i < n) :
    ∃ b off r A9 n9 c9, A = some ⟨b, off, none⟩ ∧ xs[i]? = some r ∧ b < w.heap.size ∧ w.cell? ⟨b, off + i, none⟩ = some (.slice A9 n9 c9) ∧ RowAt w A9 n9 r := by
  obtain ⟨b, off, r, cs, hA, hx, hb1, _, _, ⟨A9, n9, c9, rfl, hR⟩, hcell⟩ := h.get (by omega) hi
  have := hcell 0 (by omega)
  rw [Nat.mul_one, Nat.add_zero] at this
  exact ⟨b, off, r, A9, n9, c9, hA, hx, hb1, this, hR⟩

set_option maxRecDepth 100000 in
theorem same_all (xs ys : List (List V)) (A B : Option Addr) (n m c d : Nat) (w : World) (ha : LAt RRow 1 w A n xs) (hb : LAt RRow 1 w B m ys) (hn : n ≤ 140737488355328) (hr : ∀ r ∈ xs, r.length ≤ 140737488355328) :
    Calls Tryd.prog 34 #[.slice A n c, .slice B m d] w fun e w' => e = .returned (.bool (sameRs xs ys)) ∧ Ext w w' := by
  have Ha := hide ha; have Hb := hide hb; have Hr := hide hr; clear ha hb hr
  by_cases hl : n = m
  · subst hl
    have hne : ((n : Int) != (n : Int)) = false := by simp
    go_enter Tryd.func34, Tryd.ntmps34
    go_wp2
    go_loopw [4, 5] (fun _ k w' => ∃ i : Nat, i ≤ n ∧ k = .int .i64 i ∧ Hid (sameRs xs ys = sameRs (xs.drop i) (ys.drop i)) ∧ Hid (Ext w w')) (fun _ k _ => n - (intOf k).toNat)
    case atStart => exact ⟨0, by omega, rfl, rfl, Ext.refl _⟩
    case round =>
      obtain ⟨i, hin, rfl, ho, hw⟩ := hrel
      by_cases h : i < n
      · obtain ⟨b, off, x, A1, n1, c1, rfl, hx, hb1, d0, hR1⟩ := (Ha.out.ext RRow.stab hw.out).row_ h
        obtain ⟨b', off', y, A2, n2, c2, rfl, hy, hb2, d1, hR2⟩ := (Hb.out.ext RRow.stab hw.out).row_ h
        have hd := hide (sameRs_drop xs ys i x y hx hy)
        have hxl : n1 ≤ 140737488355328 := by have := Hr.out x (List.mem_of_getElem? hx); have := hR1.len; omega
        have HS := hide (fun w1 (h1 : Ext wr w1) => same_any x y A1 A2 n1 n2 c1 c2 w1 (hR1.ext h1) (hR2.ext h1) hxl)
        have d0 := cell_ext d0
        have d1 := cell_ext d1
        clear hx hy hR1 hR2 hb1 hb2
        go_wp2_with fail
        refine wp_region_ext 10 (by kernel_rfl) (by kernel_rfl) (by kernel_rfl) ?_
        iterate 10
          refine wpE_k (by kernel_rfl) (by kernel_rfl) ?_
          apply Exists.intro
          refine ⟨fun w1 hw1 => ?_, fun K hK => ?_⟩
          · go_simp; first | done | rfl | exact HS.out w1 hw1
          go_simp; refine hK _ _ ?_; clear hK K
        refine wpE_nil ⟨rfl, by kernel_rfl, fun w1 hw1 => ?_⟩
        simp only [EndQ]
        refine wpList_nil ?_
        clear d0 d1
        have HF := hide (hw.out.trans hw1); clear hw1
        by_cases he : sameR x y = true
        · have he1 : (!sameR x y) = false := by rw [he]; rfl
          simp only [he1]
          have He := hide he; clear he he1
          go_wp2_with fail
          go_roundw
          case rel => exact ⟨i + 1, by omega, by go_num, by rw [Hid, ho.out, hd.out, He.out]; simp, HF.out⟩
          case measure => simp [intOf]; omega
        · have he2 : sameR x y = false := by simpa using he
          have he1 : (!sameR x y) = true := by rw [he2]; rfl
          simp only [he1]
          have He := hide he2; clear he he2 he1
          go_wp2_with fail
          go_ret
          exact ⟨ret_bool (by rw [ho.out, hd.out, He.out]; simp), HF.out⟩
      · have hlen := hide (And.intro Ha.out.len Hb.out.len)
        go_wp2_with fail
        go_ret
        exact ⟨ret_bool (by rw [ho.out, List.drop_of_length_le (by have := hlen.out; omega), List.drop_of_length_le (by have := hlen.out; omega)]; rfl), hw.out⟩
  · have hne : ((n : Int) != (m : Int)) = true := by simp; omega
    have hs := hide (sameRs_len (r := xs) (s := ys) (by have := Ha.out.len; have := Hb.out.len; omega))
    go_enter Tryd.func34, Tryd.ntmps34
    go_wp2
    go_ret
    exact ⟨ret_bool hs.out.symm, Ext.refl _⟩

/-- a row of the call's own -/
def RMine (base : Nat) : World → List Value → List V → Prop := fun w cs r => ∃ A n c, cs = [.slice A n c] ∧ w.ownsRow base 54 3 (.slice A n c) n (cellsR r)
theorem RMine.row {base : Nat} {w : World} {cs : List Value} {r : List V} (h : RMine base w cs r) : RRow w cs r := by
  obtain ⟨A, n, c, h1, h2⟩ := h
  exact ⟨A, n, c, h1, RowAt.own h2⟩
theorem mine_ext {w w' : World} {base : Nat} {e : TypeId} {s n : Nat} {v : Value} {xs : List Value} (h : w.ownsRow base e s v n xs) (hw : Ext w w') : w'.ownsRow base e s v n xs :=
  h.kept (row := none) ⟨Below.os hw, Below.tape hw, Below.output hw, hw.size, fun _ hk _ => hw.block hk⟩ (by cases hv : v.ownBlock <;> simp)
theorem mine_base {w : World} {b b' : Nat} {e : TypeId} {s n : Nat} {v : Value} {xs : List Value} (h : w.ownsRow b' e s v n xs) (hb : b ≤ b') : w.ownsRow b e s v n xs := by
  refine ⟨h.1, ?_⟩
  rcases h.2 with h1 | ⟨g, cap, cur, h1, h2, h3⟩
  · exact .inl h1
  · exact .inr ⟨g, cap, cur, h1, Nat.le_trans hb h2, h3⟩
theorem mine_set {w : World} {base g : Nat} {e t : TypeId} {size n : Nat} {v : Value} {xs : List Value} {cs : Array Value} (h : w.ownsRow base e size v n xs) (hb : Blk w g t cs) (hne : e ≠ t) (j : Nat) (u : Value) : (w.setCell ⟨g, j, none⟩ u).ownsRow base e size v n xs :=
  h.kept (row := some g) ⟨rfl, rfl, rfl, by simp, fun k _ hk => Below.heap_setCell _ _ _ _ (fun e => hk (by rw [e]))⟩ (.inr (Ne.symm (own_ne_blk h hb hne)))
theorem mine_other {w w' : World} {b1 b2 : Nat} {e1 e2 : TypeId} {s1 s2 n1 n2 : Nat} {v1 v2 : Value} {x1 x2 : List Value} (h2 : w.ownsRow b2 e2 s2 v2 n2 x2) (h1 : w.ownsRow b1 e1 s1 v1 n1 x1) (hne : e1 ≠ e2) (hg : w.grownBy w' v1.ownBlock) : w'.ownsRow b2 e2 s2 v2 n2 x2 := by
  refine h2.kept hg ?_
  rcases h1.2 with ⟨rfl, _⟩ | ⟨g1, cap, cur, rfl, _, hh, _⟩
  · cases hk : v2.ownBlock <;> simp [Value.ownBlock]
  · have := own_ne_blk h2 (show Blk w g1 e1 cur from hh) (Ne.symm hne)
    exact .inr (Ne.symm this)
theorem RMine.stab (base : Nat) : Stab (RMine base) := fun _ _ _ _ hw ⟨A, n, c, h1, h2⟩ => ⟨A, n, c, h1, mine_ext h2 hw⟩
theorem RMine.base {b b' : Nat} {w : World} {cs : List Value} {r : List V} (h : RMine b' w cs r) (hb : b ≤ b') : RMine b w cs r := by
  obtain ⟨A, n, c, h1, h2⟩ := h
  exact ⟨A, n, c, h1, mine_base h2 hb⟩
theorem RMine.set_ {b g : Nat} {w : World} {t : TypeId} {ds : Array Value} {cs : List Value} {r : List V} (h : RMine b w cs r) (hb : Blk w g t ds) (hne : 54 ≠ t) (j : Nat) (u : Value) : RMine b (w.setCell ⟨g, j, none⟩ u) cs r := by
  obtain ⟨A, n, c, h1, h2⟩ := h
  exact ⟨A, n, c, h1, mine_set h2 hb hne j u⟩
/-- rows of the call's own are handed back -/
def RetRows (w0 : World) (rows : List (List V)) (en : Ending) (w' : World) : Prop :=
  ∃ A n c cells, en = .returned (.slice A n c) ∧ n = rows.length ∧ w'.ownsRow w0.heap.size 23 1 (.slice A n c) n cells ∧ Els (RMine w0.heap.size) 1 w' cells rows ∧ Ext w0 w'
theorem mine_lat {base : Nat} {w : World} {A : Option Addr} {n c : Nat} {cells : List Value} {rows : List (List V)} (hn : n = rows.length) (ho : w.ownsRow base 23 1 (.slice A n c) n cells) (he : Els (RMine base) 1 w cells rows) : LAt RRow 1 w A n rows :=
  LAt.own hn (he.mono fun _ _ h => h.row) ho
theorem infoRw : (Tryd.prog.info? 23).map (fun i => (i.zero, i.size, i.bytes)) = some (some (.slice none 0 0), 1, 24) := by kernel_rfl
theorem sizeRw : (Tryd.prog.info? 23).map (·.size) = some 1 := by kernel_rfl

/-- a block of rows that is being filled from its head on -/
structure CpR (w0 w : World) (g : Nat) (rows : List (List V)) (n i : Nat) : Prop where
  blk : ∃ cs : List Value, cs.length = i ∧ Blk w g 23 (cs ++ List.replicate (n - i) (Value.slice none 0 0)).toArray ∧ Els (RMine w0.heap.size) 1 w cs (rows.take i)
  ext : Ext w0 w
theorem CpR.go {w0 w w' : World} {g n i : Nat} {rows : List (List V)} (h : CpR w0 w g rows n i) (hw : Ext w w') : CpR w0 w' g rows n i := by
  obtain ⟨cs, h1, h2, h3⟩ := h.blk
  exact ⟨⟨cs, h1, h2.ext hw, h3.ext (RMine.stab _) hw⟩, h.ext.trans hw⟩
theorem CpR.at_ {w0 w : World} {g n i : Nat} {rows : List (List V)} (h : CpR w0 w g rows n i) (hi : i < n) : w.cell? ⟨g, i, none⟩ = some (.slice none 0 0) ∧ w.frozen? ⟨g, i, none⟩ = false := by
  obtain ⟨cs, h1, h2, _⟩ := h.blk
  refine ⟨?_, h2.frozen i⟩
  rw [h2.cell i]
  subst h1
  rw [show n - cs.length = (n - cs.length - 1) + 1 by omega, List.replicate_succ]
  simp
theorem CpR.put {w0 w : World} {g n i : Nat} {rows : List (List V)} {r : List V} {A : Option Addr} {k c : Nat} (h : CpR w0 w g rows n i) (hi : i < n) (hr : rows[i]? = some r) (hg : w0.heap.size ≤ g) (ho : w.ownsRow w0.heap.size 54 3 (.slice A k c) k (cellsR r)) :
    CpR w0 (w.setCell ⟨g, i, none⟩ (.slice A k c)) g rows n (i + 1) := by
  obtain ⟨cs, h1, h2, h3⟩ := h.blk
  have e : rows.take (i + 1) = rows.take i ++ [r] := by rw [List.take_add_one, hr]; rfl
  refine ⟨⟨cs ++ [.slice A k c], by simp [h1], ?_, ?_⟩, h.ext.setCell (p := ⟨g, i, none⟩) hg _⟩
  · have h5 := h2.set_ i (.slice A k c)
    rw [List.setIfInBounds_toArray] at h5
    subst h1
    rw [show n - cs.length = (n - (cs.length + 1)) + 1 by omega, List.replicate_succ] at h5
    simpa using h5
  · rw [e]
    refine Els.snoc (h3.mono fun c' x hx => hx.set_ h2 (by decide) _ _) rfl (fun v hv => by obtain rfl := List.mem_singleton.1 hv; rfl) ⟨A, k, c, rfl, mine_set ho h2 (by decide) _ _⟩
theorem CpR.done {w0 w : World} {g n : Nat} {rows : List (List V)} (h : CpR w0 w g rows n n) (hn : n = rows.length) (hm : n ≤ maxLen) (hg : w0.heap.size ≤ g) : RetRows w0 rows (.returned (.slice (some ⟨g, 0, none⟩) n n)) w := by
  obtain ⟨cs, h1, h2, h3⟩ := h.blk
  rw [Nat.sub_self] at h2
  simp only [List.replicate_zero, List.append_nil] at h2
  rw [List.take_of_length_le (by omega)] at h3
  exact ⟨_, _, _, cs, rfl, hn, ⟨by omega, .inr ⟨g, n, _, rfl, hg, h2, Nat.le_refl _, hm, by simp [h1], List.take_of_length_le (by simp [h1])⟩⟩, h3, h.ext⟩

set_option maxRecDepth 100000 in
theorem copy_all (rows : List (List V)) (A : Option Addr) (n c : Nat) (w : World) (ha : LAt RRow 1 w A n rows) (hn : n ≤ 16777216) (hr : ∀ r ∈ rows, r.length ≤ 16777216) :
    Calls Tryd.prog 32 #[.slice A n c] w (RetRows w rows) := by
  obtain ⟨i0, hi0, hz0, hz1, hz2⟩ := info_parts infoRw
  have hmk := run_make_n (P := Tryd.prog) 47 23 i0 _ Tryd.underlying47 hi0 hz0 (by omega) .i64 .i64 n hn
  simp only [hz1] at hmk
  have Ha := hide ha; have Hr := hide hr; have Hl := hide ha.len
  clear ha hr hz1 hz2 hz0 hi0
  have HE := hide (Ext.alloc w (.cells (madeCells #[Value.slice none 0 0] n) 23))
  have HI0 := hide (show CpR w (w.alloc (.cells (madeCells #[Value.slice none 0 0] n) 23)) w.heap.size rows n 0 from by
    refine ⟨⟨[], rfl, ?_, by simpa using Els.nil⟩, Ext.alloc _ _⟩
    have h := Blk.new w 23 (madeCells #[Value.slice none 0 0] n)
    have e : (([] : List Value) ++ List.replicate (n - 0) (Value.slice none 0 0)).toArray = madeCells #[Value.slice none 0 0] n := by
      apply Array.toList_inj.1
      simpa using (toList_madeCells_one (Value.slice none 0 0) n).symm
    rw [e]
    exact h)
  go_enter Tryd.func32, Tryd.ntmps32
  go_wp2_with fail
  generalize hW : w.alloc (.cells (madeCells #[Value.slice none 0 0] n) 23) = W1 at *
  clear hW
  go_loopw [4] (fun s4 w' => ∃ i : Nat, i ≤ n ∧ s4 = .int .i64 i ∧ Hid (CpR w w' w.heap.size rows n i)) (fun s4 _ => n - (intOf s4).toNat)
  case atStart => exact ⟨0, by omega, rfl, HI0.out⟩
  case round =>
    obtain ⟨i, hin, rfl, hI⟩ := hrel
    by_cases h : i < n
    · obtain ⟨b, off, r, A9, n9, c9, rfl, hx, hb1, d0, hR⟩ := (Ha.out.ext RRow.stab hI.out.ext).row_ h
      have HCP := hide (copy_any r A9 n9 c9 wr hR (by have := Hr.out r (List.mem_of_getElem? hx); have := hR.len; omega))
      have Hx := hide hx
      have HH := hide h
      clear hx hb1 hR
      go_wp2_with ((with_reducible refine HCP.out.mono ?_); rintro e w5 ⟨A5, c5, rfl, o5, x5⟩; have HO5 := hide (mine_base o5 hI.out.ext.size); have HI5 := hide (hI.out.go x5); clear o5 x5 d0; have c0 := (HI5.out.at_ HH.out).1; have f0 := (HI5.out.at_ HH.out).2)
      go_roundw
      case rel => exact ⟨i + 1, by omega, by go_num, HI5.out.put HH.out Hx.out (Nat.le_refl _) HO5.out⟩
      case measure => simp [intOf]; omega
    · obtain rfl : i = n := by omega
      have hfin := hide (hI.out.done Hl.out (by unfold maxLen; omega) (Nat.le_refl _))
      go_wp2_with fail
      go_ret
      exact hfin.out
end Go.Proofs.YtoahckibhmoikaaDoor
