/-
  Numbers in rows of a call's own, by the document: copied, compared.
  What is laid so far, kept as two lists: the variables and the terms.
  Two rows of a call's own, each grown by one element, in one statement that draws its order.
  Lays: is it a laying so far?
  least: the least laying that begins so, by the document; Find and Equal by the document.
  Find and Equal, by the document.
  awake: Find on a small fixed query.
-/
import Derived.Test.YthjpcnceppmnmaaFindW
import Derived.Deep.RegionHeld3
import Derived.Deep.AppendLies
namespace Go.Proofs.Ythjpcnceppmnmaa
open Go.RowKit
/-- natural numbers lie there -/
def RN : World → List Value → Nat → Prop := RFlat fun (j : Nat) => [.int .i64 (j : Int)]
theorem RN.stab : Stab RN := RFlat.stab _
theorem rn_flat : ∀ im : List Nat, im.flatMap (fun (j : Nat) => [Value.int .i64 (j : Int)]) = intC im
  | [] => rfl
  | j :: im => by rw [List.flatMap_cons, rn_flat im]; rfl
theorem intC_els (w : World) (im : List Nat) : Els RN 1 w (intC im) im := by
  have := Els.flat (f := fun (j : Nat) => [Value.int .i64 (j : Int)]) (s := 1) (w := w) (fun _ => rfl) (fun x v h => by obtain rfl := List.mem_singleton.1 h; rfl) im
  rwa [rn_flat] at this
theorem LAt.num {w : World} {A : Option Addr} {n : Nat} {xs : List Nat} (h : LAt RN 1 w A n xs) {i : Nat} (hi : i < n) : ∃ b off x, A = some ⟨b, off, none⟩ ∧ xs[i]? = some x ∧ b < w.heap.size ∧ w.cell? ⟨b, off + i, none⟩ = some (.int .i64 (x : Int)) := by
  obtain ⟨b, off, x, cs, h1, h2, h3, h4, h5, h6, h7⟩ := h.get (by decide) hi
  have : cs = [.int .i64 (x : Int)] := h6
  subst this
  exact ⟨b, off, x, h1, h2, h3, by have := h7 0 (by decide); simpa using this⟩
theorem LAt.sln {w : World} {A : Option Addr} {n : Nat} {xs : List Nat} (h : LAt RN 1 w A n xs) : Sl w A n 1 (intC xs) := by
  obtain ⟨_, cells, h2, h3⟩ := h
  have : cells = intC xs := h2.flat_eq.trans (rn_flat xs)
  rw [← this]; exact h3
theorem own_num {w : World} {base n c : Nat} {A : Option Addr} {im : List Nat} (hl : n = im.length) (h : w.ownsRow base 3 1 (.slice A n c) n (intC im)) : LAt RN 1 w A n im := LAt.own hl (intC_els w im) h

theorem sizeI2 : (Try.prog.info? 3).map (·.size) = some 1 := by kernel_rfl
set_option maxRecDepth 100000 in
theorem ints_n (im : List Nat) (A : Option Addr) (n c : Nat) (w : World) (ha : LAt RN 1 w A n im) (hn : n ≤ 16777216) :
    Calls Try.prog 66 #[.slice A n c] w (RetOwn w 3 1 n (intC im)) := by
  obtain ⟨i0, hi0, hz0, hz1, hz2⟩ := info_parts infoI2
  have hmk := run_make_n (P := Try.prog) 27 3 i0 _ Try.underlying27 hi0 hz0 (by omega) .i64 .i64 n hn
  simp only [hz1] at hmk
  have Ha := hide ha.sln; clear ha hz1 hz2 hz0 hi0
  have hone := (intC_els w im).one
  have HO := hide hone; clear hone
  go_enter Try.func66, Try.ntmps66
  go_wp2_with (refine wpList_copy_sl rfl (.tmp 7) (.tmp 8) 27 27 rfl 3 1 Try.underlying27 sizeI2 A w.heap.size 0 n n n c rfl rfl _ 3 (heap_alloc_new w _) (intC im) (Ha.out.ext (Ext.alloc w _)) (Nat.le_refl _) (by rw [size_madeCells, Nat.zero_add, Ha.out.1]; omega) HO.out w (Ext.alloc w _) (Nat.le_refl _) ?_; intro w1 hg1 hE1 hs1)
  go_ret
  refine ⟨_, _, rfl, ?_, hE1.out⟩
  have hl := Ha.out.1
  have hg := hg1.out
  rw [splice_all (by rw [Array.length_toList, size_madeCells]; omega)] at hg
  refine ⟨hl, .inr ⟨w.heap.size, n, _, rfl, Nat.le_refl _, hg, Nat.le_refl _, by unfold maxLen; omega, by simpa using hl, ?_⟩⟩
  exact List.take_of_length_le (Nat.le_of_eq hl)

def eqN (a b : Nat) : Bool := decide (a = b)
theorem sameBy_eqN : ∀ (r s : List Nat), sameBy eqN r s = true ↔ r = s := fun _ _ => sameBy_iff (p := eqN) (fun a b => by simp [eqN])

set_option maxRecDepth 100000 in
theorem same_ints (r s : List Nat) (A B : Option Addr) (n m c d : Nat) (w : World) (ha : LAt RN 1 w A n r) (hb : LAt RN 1 w B m s) (hn : n ≤ 1125899906842624) :
    Calls Try.prog 16 #[.slice A n c, .slice B m d] w fun e w' => e = .returned (.bool (sameBy eqN r s)) ∧ Ext w w' := by
  have Ha := hide ha; have Hb := hide hb; clear ha hb
  by_cases hl : n = m
  · subst hl
    have hne : ((n : Int) != (n : Int)) = false := by simp
    go_enter Try.func16, Try.ntmps16
    go_wp2
    go_loopw [4, 5] (fun _ k w' => ∃ i : Nat, i ≤ n ∧ k = .int .i64 i ∧ Hid (sameBy eqN r s = sameBy eqN (r.drop i) (s.drop i)) ∧ Hid (Ext w w')) (fun _ k _ => n - (intOf k).toNat)
    case atStart => exact ⟨0, by omega, rfl, rfl, Ext.refl _⟩
    case round =>
      obtain ⟨i, hin, rfl, ho, hw⟩ := hrel
      by_cases h : i < n
      · obtain ⟨b, off, x, rfl, hx, hb1, c0⟩ := (Ha.out.ext RN.stab hw.out).num h
        obtain ⟨b', off', y, rfl, hy, hb2, d0⟩ := (Hb.out.ext RN.stab hw.out).num h
        have hd := hide (sameBy_drop (p := eqN) r s i x y hx hy); clear hx hy
        have c0 := cell_ext c0
        have d0 := cell_ext d0
        by_cases he : x = y
        · subst he
          have He := hide (show eqN x x = true by simp [eqN])
          go_wp2_with fail
          refine wp_region_ext 9 (by kernel_rfl) (by kernel_rfl) (by kernel_rfl) ?_
          iterate 9
            refine wpE_k (by kernel_rfl) (by kernel_rfl) ?_
            apply Exists.intro
            refine ⟨fun w1 hw1 => ?_, fun K hK => ?_⟩
            · go_simp; first | done | rfl
            go_simp; refine hK _ _ ?_; clear hK K
          refine wpE_nil ⟨rfl, by kernel_rfl, fun wq hwq => ?_⟩
          simp only [EndQ]
          refine wpList_nil ?_
          have HF := hide (hw.out.trans hwq); clear hwq c0 d0
          go_wp2_with fail
          go_roundw
          case rel => exact ⟨i + 1, by omega, by go_num, by rw [Hid, ho.out, hd.out, He.out]; simp, HF.out⟩
          case measure => simp [intOf]; omega
        · have He := hide (show eqN x y = false by simp [eqN, he])
          have he2 : ((x : Int) != (y : Int)) = true := by simp; omega
          go_wp2_with fail
          refine wp_region_ext 9 (by kernel_rfl) (by kernel_rfl) (by kernel_rfl) ?_
          iterate 9
            refine wpE_k (by kernel_rfl) (by kernel_rfl) ?_
            apply Exists.intro
            refine ⟨fun w1 hw1 => ?_, fun K hK => ?_⟩
            · go_simp; first | done | rfl
            go_simp; refine hK _ _ ?_; clear hK K
          refine wpE_nil ⟨rfl, by kernel_rfl, fun wq hwq => ?_⟩
          simp only [EndQ]
          refine wpList_nil ?_
          have HF := hide (hw.out.trans hwq); clear hwq c0 d0
          go_wp2_with fail
          go_ret
          exact ⟨ret_bool (by rw [ho.out, hd.out, He.out]; simp), HF.out⟩
      · have hlen := hide (And.intro Ha.out.len Hb.out.len)
        go_wp2_with fail
        go_ret
        exact ⟨ret_bool (by rw [ho.out, List.drop_of_length_le (by have := hlen.out; omega), List.drop_of_length_le (by have := hlen.out; omega)]; rfl), hw.out⟩
  · have hne : ((n : Int) != (m : Int)) = true := by simp; omega
    have hs := hide (sameBy_len (p := eqN) (r := r) (s := s) (by have := Ha.out.len; have := Hb.out.len; omega))
    go_enter Try.func16, Try.ntmps16
    go_wp2
    go_ret
    exact ⟨ret_bool hs.out.symm, Ext.refl _⟩
end Go.Proofs.Ythjpcnceppmnmaa

namespace Go.Proofs.Ythjpcnceppmnmaa
open Go.RowKit

/-- the first place of the variable tells its term -/
def lk : List ByteArray → List Tm → Env
  | x :: xs, y :: ys => fun z => if z = x then some y else lk xs ys z
  | _, _ => envNone
theorem lk_none : ∀ (xs : List ByteArray) (ys : List Tm) (z : ByteArray), z ∉ xs → lk xs ys z = none
  | [], _, _, _ => rfl
  | _ :: _, [], _, _ => rfl
  | x :: xs, y :: ys, z, h => by
    simp only [List.mem_cons, not_or] at h
    simp only [lk, h.1, if_false]
    exact lk_none xs ys z h.2
theorem lk_some : ∀ (xs : List ByteArray) (ys : List Tm) (k : Nat) (x : ByteArray), xs.length = ys.length → xs[k]? = some x → (∀ (j : Nat) (y : ByteArray), j < k → xs[j]? = some y → y ≠ x) → lk xs ys x = ys[k]?
  | [], _, k, x, _, h, _ => by simp at h
  | _ :: _, [], _, _, hl, _, _ => by simp at hl
  | x' :: xs, y :: ys, 0, x, _, h, _ => by
    obtain rfl : x' = x := by simpa using h
    simp [lk]
  | x' :: xs, y :: ys, k + 1, x, hl, h, hn => by
    have h0 := hn 0 x' (by omega) rfl
    have hx : ¬ x = x' := fun e => h0 e.symm
    simp only [lk, hx, if_false, List.getElem?_cons_succ]
    exact lk_some xs ys k x (by simpa using hl) (by simpa using h) (fun j y hj hy => hn (j + 1) y (by omega) (by simpa using hy))
theorem lk_first {xs : List ByteArray} {ys : List Tm} (hl : xs.length = ys.length) (x : ByteArray) (h : 0 ≤ firstI (eqB x) xs 0) : ∃ (k : Nat) (y : Tm), firstI (eqB x) xs 0 = (k : Int) ∧ ys[k]? = some y ∧ lk xs ys x = some y := by
  obtain ⟨k, x', h1, h2, h3, h4⟩ := firstI_some (eqB x) xs 0 h
  have hx' : x' = x := by simpa [eqB] using h3
  subst hx'
  have hk : k < ys.length := by have := (List.getElem?_eq_some_iff.1 h2).1; omega
  refine ⟨k, ys[k], by rw [h1]; simp, List.getElem?_eq_getElem hk, ?_⟩
  rw [lk_some xs ys k x' hl h2 (fun j y hj hy => by have := h4 j y hj hy; simpa [eqB] using this)]
  exact List.getElem?_eq_getElem hk
theorem lk_first_neg {xs : List ByteArray} {ys : List Tm} (x : ByteArray) (h : firstI (eqB x) xs 0 < 0) : lk xs ys x = none := by
  refine lk_none xs ys x (fun hm => ?_)
  have h2 := (firstI_neg (eqB x) xs 0).1 h
  rw [List.any_eq_false] at h2
  exact h2 x hm (by simp [eqB])
theorem lk_snoc : ∀ (xs : List ByteArray) (ys : List Tm) (x : ByteArray) (y : Tm), xs.length = ys.length → lk xs ys x = none → lk (xs ++ [x]) (ys ++ [y]) = (lk xs ys).put x y
  | [], [], x, y, _, _ => by
    funext z
    simp [lk, Env.put]
  | [], _ :: _, _, _, hl, _ => by simp at hl
  | _ :: _, [], _, _, hl, _ => by simp at hl
  | x' :: xs, y' :: ys, x, y, hl, hn => by
    have hx : ¬ x = x' := fun e => by simp [lk, e] at hn
    have hn' : lk xs ys x = none := by simpa [lk, hx] using hn
    have ih := lk_snoc xs ys x y (by simpa using hl) hn'
    funext z
    simp only [List.cons_append, lk, ih, Env.put]
    by_cases h1 : z = x'
    · subst h1
      have h2 : ¬ z = x := fun e => hx e.symm
      simp [h2]
    · simp [h1]

def hdTm (y : ByteArray) : Tm := ⟨y, ⟨0, 0, .empty⟩⟩
theorem env0_lk : ∀ (xs ys : List ByteArray) (σ : Env) (z : ByteArray), xs.Nodup → env0 xs ys σ z = (lk xs (ys.map hdTm) z).or (σ z)
  | [], _, σ, z, _ => by simp [env0, lk, envNone]
  | _ :: _, [], σ, z, _ => by simp [env0, lk, envNone]
  | x :: xs, y :: ys, σ, z, hd => by
    obtain ⟨h1, h2⟩ := List.nodup_cons.1 hd
    have ih := env0_lk xs ys (σ.put x ⟨y, ⟨0, 0, .empty⟩⟩) z h2
    simp only [env0, ih, lk, List.map_cons]
    by_cases h : z = x
    · subst h
      rw [lk_none xs _ z h1]
      simp [Env.put, hdTm]
    · simp [h, Env.put]
theorem dblB_nodup {l : List ByteArray} (h : dblB l = false) : l.Nodup := by
  have h1 : dblI l 0 l < 0 := by simpa [dblB] using h
  have h2 := (dblI_neg l l 0 rfl).1 h1
  refine List.pairwise_iff_getElem.2 (fun i j hi hj hij e => ?_)
  have h3 := h2 j l[j] (Nat.zero_le _) (List.getElem?_eq_getElem hj)
  have h4 : memB (l.take j) l[j] = true := by
    rw [memB_iff, ← e]
    exact List.mem_iff_getElem.2 ⟨i, by simp; omega, by simp⟩
  rw [h3] at h4
  cases h4
theorem env0_heads {xs ys : List ByteArray} (hd : dblB xs = false) : env0 xs ys envNone = lk xs (ys.map hdTm) := by
  funext z
  rw [env0_lk xs ys envNone z (dblB_nodup hd)]
  simp [envNone]
/-- one image more -/
theorem envIm_drop {as_ tl : List Atm} {im : List Nat} {i : Nat} {σ : Env} {a b : Atm} {j : Nat} (hj : im[i]? = some j) (ha : as_[i]? = some a) (hb : tl[j]? = some b) :
    envIm as_ tl (im.drop i) i σ = if (uponP σ a b).2.2 then envIm as_ tl (im.drop (i + 1)) (i + 1) (uponP σ a b).1 else none := by
  obtain ⟨h1, e1⟩ := List.getElem?_eq_some_iff.1 hj
  rw [List.drop_eq_getElem_cons h1, e1]
  simp only [envIm, ha, hb]
theorem envIm_end {as_ tl : List Atm} {im : List Nat} {i : Nat} {σ : Env} (h : im.length ≤ i) : envIm as_ tl (im.drop i) i σ = some σ := by
  rw [List.drop_of_length_le h]; rfl
end Go.Proofs.Ythjpcnceppmnmaa

namespace Go.Proofs.Ythjpcnceppmnmaa
open Go.RowKit

structure LayInv (W w : World) (σ : Env) (A : Option Addr) (c : Nat) (B : Option Addr) (d : Nat) (xs : List ByteArray) (ys : List Tm) : Prop where
  len : xs.length = ys.length
  env : lk xs ys = σ
  ownV : w.ownsRow W.heap.size 9 1 (.slice A xs.length c) xs.length (strC xs)
  ownT : w.ownsRow W.heap.size 76 4 (.slice B ys.length d) ys.length (tmC ys)
  ext : Ext W w
theorem LayInv.go {W w w' : World} {σ : Env} {A B : Option Addr} {c d : Nat} {xs : List ByteArray} {ys : List Tm} (h : LayInv W w σ A c B d xs ys) (hw : Ext w w') : LayInv W w' σ A c B d xs ys :=
  ⟨h.len, h.env, own_ext h.ownV hw, own_ext h.ownT hw, h.ext.trans hw⟩
theorem own_blk {w : World} {base g : Nat} {e : TypeId} {xs : List Value} {n : Nat} (hb : Blk w g e xs.toArray) (hg : base ≤ g) (hl : xs.length = n) (hm : n ≤ maxLen) : w.ownsRow base e 1 (.slice (some ⟨g, 0, none⟩) n n) n xs :=
  ⟨by omega, .inr ⟨g, n, _, rfl, hg, hb, Nat.le_refl _, hm, by simp [hl], List.take_of_length_le (by simp [hl])⟩⟩

structure AP1 (W : World) (g1 g2 : Nat) (cs1 cs2 : Array Value) (B6 : Option Addr) (d6 : Nat) (xs : List ByteArray) (ys : List Tm) (x : ByteArray) (A6 : Option Addr) (c6 : Nat) (w : World) : Prop where
  ext : Ext W w
  own1 : w.ownsRow W.heap.size 9 1 (.slice A6 (xs.length + 1) c6) (xs.length + 1) (strC (xs ++ [x]))
  own2 : w.ownsRow W.heap.size 76 4 (.slice B6 ys.length d6) ys.length (tmC ys)
  b1 : Blk w g1 43 cs1
  b2 : Blk w g2 43 cs2
theorem AP1.go {W w w' : World} {g1 g2 : Nat} {cs1 cs2 : Array Value} {B6 A6 : Option Addr} {d6 c6 : Nat} {xs : List ByteArray} {ys : List Tm} {x : ByteArray} (h : AP1 W g1 g2 cs1 cs2 B6 d6 xs ys x A6 c6 w) (hw : Ext w w') : AP1 W g1 g2 cs1 cs2 B6 d6 xs ys x A6 c6 w' :=
  ⟨h.ext.trans hw, own_ext h.own1 hw, own_ext h.own2 hw, h.b1.ext hw, h.b2.ext hw⟩
theorem own_other {w w' : World} {b1 b2 : Nat} {e1 e2 : TypeId} {s1 s2 n1 n2 : Nat} {v1 v2 : Value} {x1 x2 : List Value} (h2 : w.ownsRow b2 e2 s2 v2 n2 x2) (h1 : w.ownsRow b1 e1 s1 v1 n1 x1) (hne : e1 ≠ e2) (hg : w.grownBy w' v1.ownBlock) : w'.ownsRow b2 e2 s2 v2 n2 x2 := by
  refine h2.kept hg ?_
  cases hk : v2.ownBlock with
  | none => exact .inl rfl
  | some k => exact .inr (Ne.symm (own_own h2 h1 (Ne.symm hne) hk))
theorem Blk.newAt {w : World} {g : Nat} {t : TypeId} {cs : Array Value} (h : w.heap.size = g) : Blk (w.alloc (.cells cs t)) g t cs := h ▸ Blk.new w t cs

theorem step_ap1 {W wr w : World} {g1 g2 : Nat} {cs1 cs2 : Array Value} {A5 B6 : Option Addr} {c5 d6 : Nat} {xs : List ByteArray} {ys : List Tm} {σ : Env} {i0 : TypeInfo} {ops : Array Oper} {o : Oper} {a : Act} {K : Act → World → Prop} {Q : Exit → Act → World → Prop} {E : Prop}
    (hi : Try.prog.info? 9 = some i0) (hz : i0.zero = some (.string .empty)) (hsz : i0.size = 1) (hby : i0.bytes = 16)
    (hV : LayInv W wr σ A5 c5 B6 d6 xs ys) (hb1 : Blk wr g1 43 cs1) (hb2 : Blk wr g2 43 cs2)
    (v : ByteArray) (hgd : o.guard = none) (s x : Operand) (ho : o.op = .call { callee := .builtin .append, args := #[s, x], argTypes := #[22, 22] }) (hs : a.eval s = .slice A5 xs.length c5)
    (hw : Ext wr w) (g : Nat) (hx : a.eval x = .slice (some ⟨g, 0, none⟩) 1 1) (hg : Blk w g 9 #[.string v]) (hl : xs.length ≤ 2000000000000)
    (h : ∀ A6 c6 w', AP1 W g1 g2 cs1 cs2 B6 d6 xs ys v A6 c6 w' → w.grownBy w' (Value.slice A5 xs.length c5).ownBlock → K (a.put o.dst (.slice A6 (xs.length + 1) c6)) w') :
    if Region.wanted o (yielded ops a.tmps) = true then Oper.wp Try.prog o a w K Q else E := by
  have o1 := own_ext hV.ownV hw
  have o2 := own_ext hV.ownT hw
  refine step_append_lies w hgd s x _ ho W.heap.size 9 i0 _ 1 16 Try.underlying22 hi hz hsz hby rfl (by omega) _ xs.length (strC xs) hs o1 ⟨g, 0, none⟩ 1 1 [.string v] hx rfl (World.news_of_block hg) (by simp [Value.oneCell']) (by omega) (by unfold maxLen; omega) (by omega) (Nat.le_trans hV.ext.size hw.size) _ rfl ?_
  intro g' cap w' hown hgrow hat hlt
  refine h _ _ _ ⟨?_, ?_, own_other o2 o1 (by decide) hgrow, (hb1.ext hw).grown hgrow (own_ne_blk o1 (hb1.ext hw) (by decide)), (hb2.ext hw).grown hgrow (own_ne_blk o1 (hb2.ext hw) (by decide))⟩ hgrow
  · exact Below.grown (hV.ext.trans hw) hgrow (hV.ext.trans hw).size (fun k hk => (o1.lt k hk).1)
  · rw [strC_snoc]; exact hown

theorem step_ap2 {W w : World} {g1 g2 : Nat} {cs1 cs2 : Array Value} {A6 B6 : Option Addr} {c6 d6 : Nat} {xs : List ByteArray} {ys : List Tm} {σ : Env} {j0 : TypeInfo} {z : Value} {ops : Array Oper} {o : Oper} {a : Act} {K : Act → World → Prop} {Q : Exit → Act → World → Prop} {E : Prop}
    (hi : Try.prog.info? 76 = some j0) (hz : j0.zero = some z) (hzs : z.cells.size = 4) (hsz : j0.size = 4) (hby : j0.bytes = 48)
    (v : ByteArray) (y : Tm) (hV : AP1 W g1 g2 cs1 cs2 B6 d6 xs ys v A6 c6 w) (hlen : xs.length = ys.length) (henv : lk xs ys = σ) (hno : σ v = none)
    (hgd : o.guard = none) (s x : Operand) (ho : o.op = .call { callee := .builtin .append, args := #[s, x], argTypes := #[41, 41] }) (hs : a.eval s = .slice B6 ys.length d6)
    (g : Nat) (hx : a.eval x = .slice (some ⟨g, 0, none⟩) 1 1) (hg : Blk w g 76 #[.string y.v, .int .i64 y.c.k, .int .i64 y.c.i, .string y.c.t]) (hl : xs.length ≤ 2000000000000)
    (h : ∀ B7 d7 w', LayInv W w' (σ.put v y) A6 c6 B7 d7 (xs ++ [v]) (ys ++ [y]) → Blk w' g1 43 cs1 → Blk w' g2 43 cs2 → K (a.put o.dst (.slice B7 (ys.length + 1) d7)) w') :
    if Region.wanted o (yielded ops a.tmps) = true then Oper.wp Try.prog o a w K Q else E := by
  refine step_append_lies w hgd s x _ ho W.heap.size 76 j0 _ 4 48 Try.underlying41 hi hz hsz hby hzs (by omega) _ ys.length (tmC ys) hs hV.own2 ⟨g, 0, none⟩ 1 1 (tmC [y]) hx rfl (World.news_of_block hg) (by simp [Value.oneCell', tmC, Tm.cells]) (by omega) (by unfold maxLen; omega) (by omega) hV.ext.size _ rfl ?_
  intro g' cap w' hown hgrow hat hlt
  refine h _ _ _ ⟨by simp [hlen], ?_, ?_, ?_, ?_⟩ (hV.b1.grown hgrow (own_ne_blk hV.own2 hV.b1 (by decide))) (hV.b2.grown hgrow (own_ne_blk hV.own2 hV.b2 (by decide)))
  · rw [lk_snoc xs ys v y hlen (by rw [henv]; exact hno), henv]
  · have := own_other hV.own1 hV.own2 (by decide) hgrow
    simpa using this
  · rw [tmC_append, List.length_append]; exact hown
  · exact Below.grown hV.ext hgrow hV.ext.size (fun k hk => (hV.own2.lt k hk).1)
end Go.Proofs.Ythjpcnceppmnmaa

namespace Go.Proofs.Ythjpcnceppmnmaa
open Go.RowKit

set_option maxHeartbeats 8000000 in
set_option maxRecDepth 100000 in
theorem lays_any (f t : Qy) (LF LT : QLoc) (im : List Nat) (A0 : Option Addr) (n0 c0 : Nat) (w : World) (hf : QAt w LF f) (ht : QAt w LT t) (hMf : smallM 1048576 f) (hMt : smallM 1048576 t) (hd : dblB f.head = false) (hh : f.head.length = t.head.length)
    (hI : LAt RN 1 w A0 n0 im) (hil : n0 ≤ f.atoms.length) (hij : ∀ j ∈ im, j < t.atoms.length) :
    Calls Try.prog 65 #[qval f.name LF, qval t.name LT, .slice A0 n0 c0] w fun e w' => e = .returned (.bool (envIm f.atoms t.atoms im 0 (env0 f.head t.head envNone)).isSome) ∧ Ext w w' := by
  obtain ⟨i0, hi0, hz0, hz1, hz2⟩ := info_parts infoS
  obtain ⟨j0, hj0, hy0, hy1, hy2⟩ := info_parts infoT
  rw [env0_heads (ys := t.head) hd]
  have hnf := hf.head.len; have hnt := ht.head.len
  have hnl : LF.n ≤ 1048576 := by have := hMf.headL; omega
  have hfa := hf.atoms.len; have hta := ht.atoms.len; have hni := hI.len
  have hfal : f.atoms.length ≤ 1048576 := hMf.atomsL
  have HL := hide (And.intro hnf (And.intro hnt (And.intro hh (And.intro hfa (And.intro hta (And.intro hni (And.intro hil hfal)))))))
  have HQF := hide hf; have HQT := hide ht; have HMF := hide hMf; have HMT := hide hMt; have HI := hide hI; have HIJ := hide hij
  have htn : LT.n = LF.n := by omega
  have hcap := hide ht.cap
  clear hnf hnt hf ht hMf hMt hI hij hd hfa hta hil hfal hh hni
  obtain ⟨A, n, c, B, m, d⟩ := LF
  obtain ⟨A', n', c', B', m', d'⟩ := LT
  dsimp only at htn
  subst htn
  simp only [qval] at *
  generalize hW2 : (w.alloc (.cells #[.string f.name, .slice A n' c, .slice B m d] 25)).alloc (.cells #[.string t.name, .slice A' n' c', .slice B' m' d'] 25) = W2
  have hs2 : W2.heap.size = w.heap.size + 1 + 1 := by rw [← hW2]; simp
  have HE := hide (show Ext w W2 from hW2 ▸ (Ext.alloc w (.cells #[.string f.name, .slice A n' c, .slice B m d] 25)).alloc' (.cells #[.string t.name, .slice A' n' c', .slice B' m' d'] 25))
  have HB0 := hide (show Blk W2 w.heap.size 25 #[.string f.name, .slice A n' c, .slice B m d] from hW2 ▸ (Blk.new w 25 #[.string f.name, .slice A n' c, .slice B m d]).ext (Ext.alloc _ _))
  have HB1 := hide (show Blk W2 (w.heap.size + 1) 25 #[.string t.name, .slice A' n' c', .slice B' m' d'] from by
    have := Blk.new (w.alloc (.cells #[.string f.name, .slice A n' c, .slice B m d] 25)) 25 #[.string t.name, .slice A' n' c', .slice B' m' d']
    rw [World.size_alloc, hW2] at this
    exact this)
  have HS2 := hide hs2
  have HW2 := hide hW2; clear hW2 hs2
  have HT := hide (ref_texts_copy f.head A n' c W2 (HQF.out.head.ext RS.stab HE.out) (by omega))
  have a1 : W2.cell? ⟨w.heap.size, 1, none⟩ = some (.slice A n' c) := HB0.out.cell 1
  generalize hR : (envIm f.atoms t.atoms im 0 (lk f.head (t.head.map hdTm))).isSome = R
  have HR := hide hR; clear hR
  go_enter Try.func65, Try.ntmps65
  go_wp2_with (rw [HW2.out]; (with_reducible refine HT.out.mono ?_); rintro e w1 ⟨g, rfl, hg, hB, hx⟩; have HG := hide hg; have HB := hide hB; have HX := hide hx; clear hg hB hx)
  have hown := hide (own_blk HB.out HG.out (strC_len f.head) (by have := HL.out; unfold maxLen; omega))
  have hfl := hide (show f.head.length = n' by have := HL.out; omega)
  rw [hfl.out] at hown ⊢
  go_loopw [8, 9] (fun s8 s9 w' => ∃ (i : Nat) (B2 : Option Addr) (d2 : Nat), i ≤ n' ∧ s9 = .int .i64 i ∧ s8 = .slice B2 i d2 ∧ Hid (w'.ownsRow w1.heap.size 76 4 (.slice B2 i d2) i (tmC ((t.head.map hdTm).take i))) ∧ Hid (Ext w1 w')) (fun _ s9 _ => n' - (intOf s9).toNat)
  case atStart => exact ⟨0, none, 0, by omega, rfl, rfl, World.ownsRow_nil _ _ _ _, Ext.refl _⟩
  case round =>
    obtain ⟨i, B2, d2, hin, rfl, rfl, ho, hX⟩ := hrel
    have b1 : wr.cell? ⟨w.heap.size + 1, 1, none⟩ = some (.slice A' n' c') := (HB1.out.ext (HX.out.trans hX.out)).cell 1
    by_cases h : i < n'
    · obtain ⟨bb, off, y, rfl, hy, hb1, e0⟩ := (HQT.out.head.ext RS.stab (HE.out.trans (HX.out.trans hX.out))).str h
      have htk := hide (show (t.head.map hdTm).take (i + 1) = (t.head.map hdTm).take i ++ [hdTm y] from take_next _ _ _ (by rw [List.getElem?_map, hy]; rfl))
      have hyn : y.size ≤ 1048576 := HMT.out.heads y (List.mem_of_getElem? hy)
      clear hy
      go_wp2_with (at_builtin; refine wpList_append_sl rfl (.tmp 25) (.tmp 32) _ rfl 76 j0 _ 4 48 Try.underlying41 hj0 hy0 hy1 hy2 rfl (by omega) w1 (hX.out.trans (Ext.alloc _ _)) _ i (tmC ((t.head.map hdTm).take i)) rfl (ho.out.alloc _) _ 1 1 (tmC [hdTm y]) rfl (sl_lit wr (tmC [hdTm y]) 76 1 4 rfl) (tmC_els w [hdTm y]).one (by unfold maxLen; omega) (by omega) ?_; intro A8 c8 w8 own8 E8 G8 L8)
      go_roundw
      case rel =>
        refine ⟨i + 1, A8, c8, by omega, by go_num, rfl, ?_, ?_⟩
        · rw [Hid, htk.out, tmC_append]; exact own8.out
        · exact E8.out
      case measure => simp [intOf]; omega
    · obtain rfl : i = n' := by omega
      have hxs := hide (show i = (t.head.map hdTm).length by have := HL.out; simp; omega)
      have H0 := hide (show LayInv W2 wr (lk f.head (t.head.map hdTm)) (some ⟨g, 0, none⟩) f.head.length B2 d2 f.head (t.head.map hdTm) from by
        have o1 := own_ext hown.out hX.out
        have o2 := own_base ho.out HX.out.size
        rw [List.take_of_length_le (by have := hxs.out; omega)] at o2
        have e1 := hfl.out
        have e2 := hxs.out
        exact LayInv.mk (by omega) rfl (by rw [e1]; exact o1) (by rw [← e2]; exact o2) (HX.out.trans hX.out))
      generalize hσ0 : lk f.head (t.head.map hdTm) = σ0 at *
      clear hσ0 ho hown
      have hfl2 := hide (And.intro hfl.out hxs.out)
      generalize hxs0 : f.head = xs0 at *
      generalize hys0 : t.head.map hdTm = ys0 at *
      clear hxs0 hys0
      go_wp2_with fail
      go_loopw [6, 7, 8, 10, 11, 12, 13, 14] (fun _ s7 s8 s10 _ _ _ _ w' => ∃ (k : Nat) (σi : Env) (xs : List ByteArray) (ys : List Tm) (A2 : Option Addr) (c2 : Nat) (B3 : Option Addr) (d3 : Nat), k ≤ n0 ∧ s10 = .int .i64 k ∧ s7 = .slice A2 xs.length c2 ∧ s8 = .slice B3 ys.length d3 ∧ xs.length ≤ (k + 1) * 1048576 ∧
        Hid (envIm f.atoms t.atoms im 0 σ0 = envIm f.atoms t.atoms (im.drop k) k σi) ∧ Hid (LayInv W2 w' σi A2 c2 B3 d3 xs ys)) (fun _ _ _ s10 _ _ _ _ _ => n0 - (intOf s10).toNat)
      case atStart =>
        have e1 := hfl2.out
        exact ⟨0, σ0, xs0, ys0, some ⟨g, 0, none⟩, xs0.length, B2, d2, by omega, rfl, by rw [e1.1], by rw [← e1.2], by omega, rfl, H0.out⟩
      case round =>
        obtain ⟨k, σi, xs, ys, A2, c2, B3, d3, hk, rfl, rfl, rfl, hxl, hev, hV⟩ := hrel
        have hk6 : k ≤ 1048576 := by have := HL.out; omega
        by_cases h2 : k < n0
        · have hkm : k < m := by have := HL.out; omega
          obtain ⟨ib, io, j, rfl, hj, hib, ci⟩ := (HI.out.ext RN.stab (HE.out.trans hV.out.ext)).num h2
          have hjm : j < m' := by have := HL.out; have := HIJ.out j (List.mem_of_getElem? hj); omega
          obtain ⟨ba, oa, a, B1, m1, d1, rfl, hxa, hb1, C0, C1, hTa⟩ := (HQF.out.atoms.ext RA.stab HE.out).at_ hkm
          obtain ⟨bb, ob, b, B5, m5, d5, rfl, hxb, hb2, D0, D1, hTb⟩ := (HQT.out.atoms.ext RA.stab HE.out).at_ hjm
          have C0 := hV.out.ext.cell C0
          have C1 := hV.out.ext.cell C1
          have D0 := hV.out.ext.cell D0
          have D1 := hV.out.ext.cell D1
          have hst := hide (hev.out.trans (envIm_drop hj hxa hxb))
          have f2 : wr.cell? ⟨w.heap.size, 2, none⟩ = some (.slice (some ⟨ba, oa, none⟩) m d) := (HB0.out.ext hV.out.ext).cell 2
          have t2 : wr.cell? ⟨w.heap.size + 1, 2, none⟩ = some (.slice (some ⟨bb, ob, none⟩) m' d') := (HB1.out.ext hV.out.ext).cell 2
          have hma : smallA 1048576 a := HMF.out.atoms a (List.mem_of_getElem? hxa)
          have HTA := hide hTa; have HTB := hide hTb
          have hln := hide (And.intro hTa.len hTb.len)
          have hm1 : m1 ≤ 1048576 := by have := hma.len; have := hTa.len; omega
          clear hj hxa hxb hTa hTb hma hev
          go_upto_region 10 with fail
          have n1 := World.new_ne wr _ ci
          have n2 := World.new_ne wr _ C0
          have n4 := World.new_ne wr _ D0
          have n6 := World.new_ne wr _ f2
          have n7 := World.new_ne wr _ t2
          go_cut [11, 12] from 129 (fun s11 s12 wx => ∃ g1 g2, s11 = .pointer (some ⟨g1, 0, none⟩) ∧ s12 = .pointer (some ⟨g2, 0, none⟩) ∧ Hid (Ext wr wx) ∧ Hid (Blk wx g1 43 #[.string a.rel, .slice B1 m1 d1]) ∧ Hid (Blk wx g2 43 #[.string b.rel, .slice B5 m5 d5]))
          case first =>
            go_region_held3 (fun w' => w'.cell? ⟨ib, io + k, none⟩ = some (.int .i64 (j : Int)) ∧ w'.cell? ⟨ba, oa + k * 2, none⟩ = some (.string a.rel) ∧ w'.cell? ⟨ba, oa + k * 2 + 1, none⟩ = some (.slice B1 m1 d1) ∧ w'.cell? ⟨bb, ob + j * 2, none⟩ = some (.string b.rel) ∧ w'.cell? ⟨bb, ob + j * 2 + 1, none⟩ = some (.slice B5 m5 d5) ∧
              w'.cell? ⟨w.heap.size, 2, none⟩ = some (.slice (some ⟨ba, oa, none⟩) m d) ∧ w'.cell? ⟨w.heap.size + 1, 2, none⟩ = some (.slice (some ⟨bb, ob, none⟩) m' d')) (go_keep) (fail)
            all_goals go_wp2_with fail
            all_goals go_meet
            · refine ⟨wr.heap.size, wr.heap.size + 1, rfl, rfl, Ext.drew' ((Ext.alloc wr _).alloc' _), ((Blk.new wr 43 _).ext (Ext.alloc _ _)).ext (Ext.drew _), ?_⟩
              have := (Blk.new (wr.alloc (.cells #[.string a.rel, .slice B1 m1 d1] 43)) 43 #[.string b.rel, .slice B5 m5 d5]).ext (Ext.drew _)
              rw [World.size_alloc] at this; exact this
            · refine ⟨wr.heap.size + 1, wr.heap.size, rfl, rfl, Ext.drew' ((Ext.alloc wr _).alloc' _), ?_, ((Blk.new wr 43 _).ext (Ext.alloc _ _)).ext (Ext.drew _)⟩
              have := (Blk.new (wr.alloc (.cells #[.string b.rel, .slice B5 m5 d5] 43)) 43 #[.string a.rel, .slice B1 m1 d1]).ext (Ext.drew _)
              rw [World.size_alloc] at this; exact this
          case rest =>
          obtain ⟨g1, g2, rfl, rfl, HQ, HA1, HA2⟩ := hcut
          have HVq := hide (hV.out.go HQ.out)
          clear ci C0 C1 D0 D1 f2 t2 n1 n2 n4 n6 n7
          have r1 : wc.cell? ⟨g1, 0, none⟩ = some (.string a.rel) := HA1.out.cell 0
          have r2 : wc.cell? ⟨g1, 1, none⟩ = some (.slice B1 m1 d1) := HA1.out.cell 1
          have r3 : wc.cell? ⟨g2, 0, none⟩ = some (.string b.rel) := HA2.out.cell 0
          have r4 : wc.cell? ⟨g2, 1, none⟩ = some (.slice B5 m5 d5) := HA2.out.cell 1
          by_cases hrel : a.rel = b.rel
          · by_cases hlen : m1 = m5
            · rw [hrel] at r1
              subst hlen
              have hup := hide (show uponP σi a b = uponGo σi a.terms b.terms by rw [uponP, if_pos ⟨hrel, by have := hln.out; omega⟩])
              have hgo := hide (UGo.start σi a.terms b.terms)
              rw [hup.out] at hst
              have HVq := hide (hV.out.go HQ.out)
              clear hrel hV
              go_wp2_with fail
              go_loopw [6, 7, 8, 13, 14] (fun _ s7 s8 s13 _ w' => ∃ (p : Nat) (σj : Env) (xs2 : List ByteArray) (ys2 : List Tm) (fr : List ByteArray) (A5 : Option Addr) (c5 : Nat) (B6 : Option Addr) (d6 : Nat), p ≤ m1 ∧ s13 = .int .i64 p ∧ s7 = .slice A5 xs2.length c5 ∧ s8 = .slice B6 ys2.length d6 ∧ Hid (xs2.length ≤ (k + 1) * 1048576 + p) ∧
                Hid (UGo σi σj a.terms b.terms p fr) ∧ Hid (LayInv W2 w' σj A5 c5 B6 d6 xs2 ys2) ∧ Hid (Blk w' g1 43 #[.string a.rel, .slice B1 m1 d1]) ∧ Hid (Blk w' g2 43 #[.string b.rel, .slice B5 m1 d5])) (fun _ _ _ s13 _ _ => m1 - (intOf s13).toNat)
              case atStart => exact ⟨0, σi, xs, ys, [], A2, c2, B3, d3, by omega, rfl, rfl, rfl, Nat.le_trans hxl (Nat.le_add_right _ _), hgo.out, HVq.out, HA1.out, HA2.out⟩
              case round =>
                obtain ⟨p, σj, xs2, ys2, fr, A5, c5, B6, d6, hpm, rfl, rfl, rfl, hxl2, hG, hV2, hA1, hA2⟩ := hrel
                have r2 := hA1.out.cell 1
                have r4 := hA2.out.cell 1
                have hxl3 : xs2.length ≤ 2000000000000 := by have := hxl2.out; omega
                by_cases h3 : p < m1
                · obtain ⟨b1, off1, x, rfl, hx, hxb, CC0, CC1, CC2, CC3⟩ := HTA.out.tm h3
                  have c0 := hV2.out.ext.cell CC0
                  have c1 := hV2.out.ext.cell CC1
                  have c2 := hV2.out.ext.cell CC2
                  have c3 := hV2.out.ext.cell CC3
                  have CS := hide CC0; clear CC0 CC1 CC2 CC3
                  obtain ⟨b2, off2, y, rfl, hy, hyb, E0, E1, E2, E3⟩ := HTB.out.tm h3
                  have e0 := hV2.out.ext.cell E0
                  have e1 := hV2.out.ext.cell E1
                  have e2 := hV2.out.ext.cell E2
                  have e3 := hV2.out.ext.cell E3
                  have ES := hide (And.intro E0 (And.intro E1 (And.intro E2 E3))); clear E0 E1 E2 E3
                  have HS := hide (fun hs => hG.out.step hx hy hs)
                  have HQ2 := hide (fun hs => hG.out.stop hx hy hs)
                  have hr2 : wr.cell? ⟨g1, 1, none⟩ = some (.slice (some ⟨b1, off1, none⟩) m1 d1) := r2
                  have hr4 : wr.cell? ⟨g2, 1, none⟩ = some (.slice (some ⟨b2, off2, none⟩) m1 d5) := r4
                  clear hx hy r2 r4
                  have r2 := hr2; have r4 := hr4; clear hr2 hr4
                  by_cases hv : 0 < x.v.size
                  · have he := size_some hv
                    have he3 : x.v.toList.isEmpty = false := by simpa using he
                    clear he
                    have Hnv := hide (noVar_false hv); clear hv
                    have HCon := hide (ref_at xs2 x.v A5 xs2.length c5 wr (LAt.own rfl (strC_els wr xs2) hV2.out.ownV) (by omega))
                    have hlk := hide (And.intro hV2.out.len hV2.out.env)
                    by_cases hf : firstI (eqB x.v) xs2 0 < 0
                    · have HN := hide (lk_first_neg (ys := ys2) x.v hf)
                      generalize firstI (eqB x.v) xs2 0 = fi at *
                      have hyl := hide hlk.out.1
                      have hσ : σj x.v = none := by rw [← hlk.out.2]; exact HN.out
                      have HX0 := hide (show stepX σj x y = y by simp [stepX, Hnv.out, hσ])
                      have HS0 := hide (show stepS σj x y = σj.put x.v y by simp [stepS, Hnv.out, hσ])
                      have Hσ := hide hσ; clear hσ
                      have Hne := hide (show ∀ g, wr.heap.size ≤ g → some g ≠ (Value.slice A5 xs2.length c5).ownBlock from fun g hg e => by
                        have := (hV2.out.ownV.lt g e.symm).2
                        omega)
                      go_wp2_with ((with_reducible refine HCon.out.mono ?_); rintro e w1 ⟨rfl, rfl⟩)
                      clear c1 c2 c3
                      have S0 : wr.cell? ⟨g1, 1, none⟩ = some (.slice (some ⟨b1, off1, none⟩) m1 d1) := r2
                      go_region_held3 (fun w' => w'.cell? ⟨g1, 1, none⟩ = some (.slice (some ⟨b1, off1, none⟩) m1 d1) ∧ w'.cell? ⟨g2, 1, none⟩ = some (.slice (some ⟨b2, off2, none⟩) m1 d5) ∧ w'.cell? ⟨b1, off1 + p * 4, none⟩ = some (.string x.v) ∧
                          w'.cell? ⟨b2, off2 + p * 4, none⟩ = some (.string y.v) ∧ w'.cell? ⟨b2, off2 + p * 4 + 1, none⟩ = some (.int .i64 y.c.k) ∧ w'.cell? ⟨b2, off2 + p * 4 + 2, none⟩ = some (.int .i64 y.c.i) ∧ w'.cell? ⟨b2, off2 + p * 4 + 3, none⟩ = some (.string y.c.t))
                        (first
                          | (exact ⟨hP1.b1.cell 1, hP1.b2.cell 1, hP1.ext.cell CS.out, hP1.ext.cell ES.out.1, hP1.ext.cell ES.out.2.1, hP1.ext.cell ES.out.2.2.1, hP1.ext.cell ES.out.2.2.2⟩)
                          | (exact ⟨hP3.cell 1, hP4.cell 1, hP2.ext.cell CS.out, hP2.ext.cell ES.out.1, hP2.ext.cell ES.out.2.1, hP2.ext.cell ES.out.2.2.1, hP2.ext.cell ES.out.2.2.2⟩)
                          | go_keep)
                        (first
                          | ((refine step_ap1 hi0 hz0 hz1 hz2 hV2.out hA1.out hA2.out x.v (by rfl) _ _ (by rfl) (by rfl) (Ext.drew' (Ext.alloc wr _)) wr.heap.size (by rfl) ((Blk.new wr _ _).ext (Ext.drew _)) hxl3 ?_); intro A6 c6 w5 hP1 hP5)
                          | ((refine step_ap1 hi0 hz0 hz1 hz2 hV2.out hA1.out hA2.out x.v (by rfl) _ _ (by rfl) (by rfl) (Ext.drew' (Ext.alloc' (Ext.alloc wr _) _)) wr.heap.size (by rfl) (((Blk.new wr _ _).ext (Ext.alloc _ _)).ext (Ext.drew _)) hxl3 ?_); intro A6 c6 w5 hP1 hP5)
                          | ((refine step_ap1 hi0 hz0 hz1 hz2 hV2.out hA1.out hA2.out x.v (by rfl) _ _ (by rfl) (by rfl) (Ext.drew' (Ext.alloc' (Ext.alloc wr _) _)) (wr.heap.size + 1) (by rfl) ((Blk.newAt (World.size_alloc _ _)).ext (Ext.drew _)) hxl3 ?_); intro A6 c6 w5 hP1 hP5)
                          | ((refine step_ap2 hj0 hy0 (by rfl) hy1 hy2 x.v y (hP1.go (Ext.alloc w5 _)) hV2.out.len hV2.out.env Hσ.out (by rfl) _ _ (by rfl) (by rfl) w5.heap.size (by rfl) (Blk.new w5 _ _) hxl3 ?_); intro B7 d7 w6 hP2 hP3 hP4)
                          | ((refine step_ap2 hj0 hy0 (by rfl) hy1 hy2 x.v y hP1 hV2.out.len hV2.out.env Hσ.out (by rfl) _ _ (by rfl) (by rfl) (wr.heap.size + 1) (by rfl) (((Blk.newAt (World.size_alloc _ _)).ext (Ext.drew _)).grown hP5 (Hne.out _ (Nat.le_succ _))) hxl3 ?_); intro B7 d7 w6 hP2 hP3 hP4)
                          | ((refine step_ap2 hj0 hy0 (by rfl) hy1 hy2 x.v y hP1 hV2.out.len hV2.out.env Hσ.out (by rfl) _ _ (by rfl) (by rfl) wr.heap.size (by rfl) ((((Blk.new wr _ _).ext (Ext.alloc _ _)).ext (Ext.drew _)).grown hP5 (Hne.out _ (Nat.le_refl _))) hxl3 ?_); intro B7 d7 w6 hP2 hP3 hP4))
                      all_goals
                        have hx2 := hide (HS.out (by rw [HX0.out]; exact sameT_iff.2 rfl))
                        rw [HS0.out] at hx2
                        have HP2 := hide hP2; have HP3 := hide hP3; have HP4 := hide hP4
                        clear hP1 hP2 hP3 hP4 hP5
                        go_wp2_with fail
                        go_roundw
                        case rel => exact ⟨p + 1, _, xs2 ++ [x.v], ys2 ++ [y], stepF σj fr x, A6, c6, B7, d7, by omega, by go_num, by simp, by simp, by rw [Hid, List.length_append]; exact Nat.succ_le_succ hxl2.out, hx2.out, HP2.out, HP3.out, HP4.out⟩
                        case measure => simp [intOf]; omega
                    · obtain ⟨q, o, hfi, ho, hlo⟩ := lk_first hlk.out.1 x.v (by omega)
                      have hq : q < ys2.length := (List.getElem?_eq_some_iff.1 ho).1
                      obtain ⟨b3, off3, o', rfl, ho', hob, o0, o1, o2, o3⟩ := (LAt.own (R := RT) (xs := ys2) rfl (tmC_els wr ys2) hV2.out.ownT).tm hq
                      obtain rfl : o = o' := by rw [ho] at ho'; exact Option.some.inj ho'
                      have hσ : σj x.v = some o := by rw [← hlk.out.2]; exact hlo
                      have HX0 := hide (show stepX σj x y = o by simp [stepX, Hnv.out, hσ])
                      have HS0 := hide (show stepS σj x y = σj by simp [stepS, Hnv.out, hσ])
                      rw [hfi] at HCon
                      clear hf hfi ho ho' hlo hσ
                      have hyl := hide hlk.out.1
                      have hq2 : ys2.length ≤ 1125899906842624 := by have := hlk.out.1; omega
                      generalize hyn : ys2.length = yn at *
                      go_wp2_with ((with_reducible refine HCon.out.mono ?_); rintro e w1 ⟨rfl, rfl⟩)
                      have e0 := cell_ext e0
                      have e1 := cell_ext e1
                      have e2 := cell_ext e2
                      have e3 := cell_ext e3
                      have o0 := cell_ext o0
                      have o1 := cell_ext o1
                      have o2 := cell_ext o2
                      have o3 := cell_ext o3
                      have r4 := cell_ext r4
                      refine wp_region_ext 10 (by kernel_rfl) (by kernel_rfl) (by kernel_rfl) ?_
                      iterate 9
                        refine wpE_k (by kernel_rfl) (by kernel_rfl) ?_
                        apply Exists.intro
                        refine ⟨fun w1 hw1 => ?_, fun K hK => ?_⟩
                        · go_simp; first | done | rfl
                        go_simp; refine hK _ _ ?_; clear hK K
                      clear e0 e1 e2 e3 o0 o1 o2 o3 r4
                      subst hyn
                      refine wpE_k (by kernel_rfl) (by kernel_rfl) ?_
                      refine ⟨.bool (!sameT o y), fun w1 hw1 => ?_, fun K hK => ?_⟩
                      · go_simp
                        unfold sameT sameV
                        have ht := toList_iff o.c.t y.c.t
                        have hv := toList_iff o.v y.v
                        by_cases h0 : o.v = y.v <;> by_cases h1 : o.c.k = y.c.k <;> by_cases h2 : o.c.i = y.c.i <;> by_cases h3 : o.c.t = y.c.t <;> simp [h0, h1, h2, h3, ht, hv]
                      go_simp; refine hK _ _ ?_; clear hK K
                      refine wpE_nil ⟨rfl, by kernel_rfl, fun wq hwq => ?_⟩
                      simp only [EndQ]
                      refine wpList_nil ?_
                      have HF := hide hwq; clear hwq
                      cases he : sameT o y with
                      | true =>
                        have hx2 := hide (HS.out (by rw [HX0.out]; exact he)); clear he
                        rw [HS0.out] at hx2
                        go_wp2_with fail
                        go_roundw
                        case rel => exact ⟨p + 1, σj, xs2, ys2, stepF σj fr x, _, _, _, _, by omega, by go_num, rfl, rfl, Nat.le_succ_of_le hxl2.out, hx2.out, hV2.out.go HF.out, hA1.out.ext HF.out, hA2.out.ext HF.out⟩
                        case measure => simp [intOf]; omega
                      | false =>
                        have hx2 := hide (HQ2.out (by rw [HX0.out]; exact he)); clear he
                        go_wp2_with fail
                        go_ret
                        exact ⟨ret_bool (by rw [← HR.out, hst.out, hx2.out]; rfl), HE.out.trans (hV2.out.ext.trans HF.out)⟩
                  · have he := size_empty (s := x.v) (by omega)
                    have he3 : x.v.toList.isEmpty = true := by rw [he]; rfl
                    clear he
                    have Hnv := hide (noVar_true (t := x) (by omega)); clear hv
                    have HX0 := hide (show stepX σj x y = x by simp [stepX, Hnv.out])
                    have HS0 := hide (show stepS σj x y = σj by simp [stepS, Hnv.out])
                    go_wp2_with fail
                    have c0 := cell_ext c0
                    have c1 := cell_ext c1
                    have c2 := cell_ext c2
                    have c3 := cell_ext c3
                    have e0 := cell_ext e0
                    have e1 := cell_ext e1
                    have e2 := cell_ext e2
                    have e3 := cell_ext e3
                    have r2 := cell_ext r2
                    have r4 := cell_ext r4
                    refine wp_region_ext 11 (by kernel_rfl) (by kernel_rfl) (by kernel_rfl) ?_
                    iterate 10
                      refine wpE_k (by kernel_rfl) (by kernel_rfl) ?_
                      apply Exists.intro
                      refine ⟨fun w1 hw1 => ?_, fun K hK => ?_⟩
                      · go_simp; first | done | rfl
                      go_simp; refine hK _ _ ?_; clear hK K
                    clear c0 c1 c2 c3 e0 e1 e2 e3 r2 r4
                    refine wpE_k (by kernel_rfl) (by kernel_rfl) ?_
                    refine ⟨.bool (!sameT x y), fun w1 hw1 => ?_, fun K hK => ?_⟩
                    · go_simp
                      unfold sameT sameV
                      have ht := toList_iff x.c.t y.c.t
                      have hv := toList_iff x.v y.v
                      by_cases h0 : x.v = y.v <;> by_cases h1 : x.c.k = y.c.k <;> by_cases h2 : x.c.i = y.c.i <;> by_cases h3 : x.c.t = y.c.t <;> simp [h0, h1, h2, h3, ht, hv]
                    go_simp; refine hK _ _ ?_; clear hK K
                    refine wpE_nil ⟨rfl, by kernel_rfl, fun wq hwq => ?_⟩
                    simp only [EndQ]
                    refine wpList_nil ?_
                    have HF := hide hwq; clear hwq
                    cases he : sameT x y with
                    | true =>
                      have hx2 := hide (HS.out (by rw [HX0.out]; exact he)); clear he
                      rw [HS0.out] at hx2
                      go_wp2_with fail
                      go_roundw
                      case rel => exact ⟨p + 1, σj, xs2, ys2, stepF σj fr x, _, _, _, _, by omega, by go_num, rfl, rfl, Nat.le_succ_of_le hxl2.out, hx2.out, hV2.out.go HF.out, hA1.out.ext HF.out, hA2.out.ext HF.out⟩
                      case measure => simp [intOf]; omega
                    | false =>
                      have hx2 := hide (HQ2.out (by rw [HX0.out]; exact he)); clear he
                      go_wp2_with fail
                      go_ret
                      exact ⟨ret_bool (by rw [← HR.out, hst.out, hx2.out]; rfl), HE.out.trans (hV2.out.ext.trans HF.out)⟩
                · have hdn := hide (hG.out.done (by have := hln.out; omega))
                  obtain rfl : p = m1 := by omega
                  go_wp2_with fail
                  go_roundw
                  case rel =>
                    refine ⟨k + 1, σj, xs2, ys2, A5, c5, B6, d6, by omega, by go_num, rfl, rfl, Nat.le_trans hxl2.out (by rw [Nat.add_mul (k + 1) 1 1048576, Nat.one_mul]; exact Nat.add_le_add_left hm1 _), ?_, hV2.out⟩
                    rw [Hid, hst.out, hdn.out]; rfl
                  case measure => simp [intOf]; omega
            · rw [hrel] at r1
              have hne : ((m1 : Int) != (m5 : Int)) = true := by simp; omega
              have hup := hide (show uponP σi a b = (σi, [], false) by rw [uponP, if_neg (fun e => hlen (by have := hln.out; omega))])
              go_wp2_with fail
              go_ret
              refine ⟨ret_bool (by rw [← HR.out, hst.out, hup.out]; rfl), HE.out.trans HVq.out.ext⟩
          · have hne : (a.rel.toList == b.rel.toList) = false := by simpa using fun e => hrel ((bytes_toList a.rel b.rel).1 e)
            have hup := hide (show uponP σi a b = (σi, [], false) by rw [uponP, if_neg (fun e => hrel e.1)])
            go_wp2_with fail
            go_ret
            refine ⟨ret_bool (by rw [← HR.out, hst.out, hup.out]; rfl), HE.out.trans HVq.out.ext⟩
        · go_wp2_with fail
          go_ret
          have e1 := hev.out.trans (envIm_end (by have := HL.out; omega))
          refine ⟨ret_bool (by rw [← HR.out, e1]; rfl), HE.out.trans hV.out.ext⟩
end Go.Proofs.Ythjpcnceppmnmaa

namespace Go.Proofs.Ythjpcnceppmnmaa
open Go.RowKit

theorem step_ap_int {W w : World} {A5 : Option Addr} {c5 n : Nat} {im : List Nat} {j : Nat} {i0 : TypeInfo} {ops : Array Oper} {o : Oper} {a : Act} {K : Act → World → Prop} {Q : Exit → Act → World → Prop} {E : Prop}
    (hi : Try.prog.info? 3 = some i0) (hz : i0.zero = some (.int .i64 0)) (hsz : i0.size = 1) (hby : i0.bytes = 8)
    (hW : Ext W w) (o1 : w.ownsRow W.heap.size 3 1 (.slice A5 n c5) n (intC im))
    (hgd : o.guard = none) (s x : Operand) (ho : o.op = .call { callee := .builtin .append, args := #[s, x], argTypes := #[27, 27] }) (hs : a.eval s = .slice A5 n c5)
    (g : Nat) (hx : a.eval x = .slice (some ⟨g, 0, none⟩) 1 1) (hg : Blk w g 3 #[.int .i64 (j : Int)]) (hl : n ≤ 2000000000000)
    (h : ∀ A6 c6 w', w'.ownsRow W.heap.size 3 1 (.slice A6 (n + 1) c6) (n + 1) (intC (im ++ [j])) → Ext W w' → K (a.put o.dst (.slice A6 (n + 1) c6)) w') :
    if Region.wanted o (yielded ops a.tmps) = true then Oper.wp Try.prog o a w K Q else E := by
  refine step_append_lies w hgd s x _ ho W.heap.size 3 i0 _ 1 8 Try.underlying27 hi hz hsz hby rfl (by omega) _ n (intC im) hs o1 ⟨g, 0, none⟩ 1 1 [.int .i64 (j : Int)] hx rfl (World.news_of_block hg) (by simp [Value.oneCell']) (by omega) (by unfold maxLen; omega) (by omega) hW.size _ rfl ?_
  intro g' cap w' hown hgrow hat hlt
  refine h _ _ _ ?_ (Below.grown hW hgrow hW.size (fun k hk => (o1.lt k hk).1))
  rw [intC_snoc]; exact hown

def RetL (w0 : World) (o : Option (List Nat)) (en : Ending) (w' : World) : Prop :=
  ∃ A c, en = .returned (.tuple #[.slice A (o.getD []).length c, .bool o.isSome]) ∧ LAt RN 1 w' A (o.getD []).length (o.getD []) ∧ Ext w0 w'

set_option maxHeartbeats 8000000 in
set_option maxRecDepth 100000 in
theorem least_any (f t : Qy) (LF LT : QLoc) (hMf : smallM 1048576 f) (hMt : smallM 1048576 t) (hd : dblB f.head = false) (hh : f.head.length = t.head.length) :
    ∀ (r : Nat) (im : List Nat) (A0 : Option Addr) (n0 c0 : Nat) (w : World), QAt w LF f → QAt w LT t → LAt RN 1 w A0 n0 im → n0 + r = f.atoms.length → (∀ j ∈ im, j < t.atoms.length) →
    Calls Try.prog 39 #[qval f.name LF, qval t.name LT, .slice A0 n0 c0] w (RetL w (leastP f.atoms t.atoms (env0 f.head t.head envNone) im)) := by
  obtain ⟨i0, hi0, hz0, hz1, hz2⟩ := info_parts infoI2
  intro r
  induction r with
  | zero =>
    intro im A0 n0 c0 w hf ht hI hr hij
    have hfl : f.atoms.length ≤ 1048576 := hMf.atomsL
    have hLays := hide (fun w1 (h1 : Ext w w1) => lays_any f t LF LT im A0 n0 c0 w1 (hf.ext h1) (ht.ext h1) hMf hMt hd hh (hI.ext RN.stab h1) (by omega) hij)
    have hfa := hf.atoms.len; have hta := ht.atoms.len; have hni := hI.len
    generalize hσ : env0 f.head t.head envNone = σ0 at *
    have HL := hide (And.intro hfa (And.intro hta hni))
    have HQF := hide hf; have HQT := hide ht; have HI := hide hI; have HIJ := hide hij
    clear hf ht hI hij
    have HE := hide ((Ext.alloc w (.cells #[.string f.name, .slice LF.A LF.n LF.c, .slice LF.B LF.m LF.d] 25)).alloc' (.cells #[.string t.name, .slice LT.A LT.n LT.c, .slice LT.B LT.m LT.d] 25))
    have HB0 := hide ((Blk.new w 25 #[.string f.name, .slice LF.A LF.n LF.c, .slice LF.B LF.m LF.d]).ext (Ext.alloc _ (.cells #[.string t.name, .slice LT.A LT.n LT.c, .slice LT.B LT.m LT.d] 25)))
    have HB1 := hide (show Blk ((w.alloc (.cells #[.string f.name, .slice LF.A LF.n LF.c, .slice LF.B LF.m LF.d] 25)).alloc (.cells #[.string t.name, .slice LT.A LT.n LT.c, .slice LT.B LT.m LT.d] 25)) (w.heap.size + 1) 25 #[.string t.name, .slice LT.A LT.n LT.c, .slice LT.B LT.m LT.d] from Blk.newAt (World.size_alloc _ _))
    generalize hW2 : (w.alloc (.cells #[.string f.name, .slice LF.A LF.n LF.c, .slice LF.B LF.m LF.d] 25)).alloc (.cells #[.string t.name, .slice LT.A LT.n LT.c, .slice LT.B LT.m LT.d] 25) = W2 at *
    have hs2 : W2.heap.size = w.heap.size + 1 + 1 := by rw [← hW2]; simp
    have HS2 := hide hs2; have HW2 := hide hW2; clear hs2 hW2
    obtain ⟨A, n, c, B, m, d⟩ := LF
    obtain ⟨A', n', c', B', m', d'⟩ := LT
    simp only [qval] at *
    cases hen : envIm f.atoms t.atoms im 0 σ0 with
    | none =>
      rw [leastP_bad hen]
      rw [hen] at hLays
      clear hen hfa hta hni hh hσ hr
      go_enter Try.func39, Try.ntmps39
      go_wp2_with (rw [HW2.out]; (with_reducible refine (hLays.out _ HE.out).mono ?_); rintro e w1 ⟨rfl, h2⟩; have E1 := hide h2; clear h2)
      go_ret2
      exact ⟨none, 0, rfl, LAt.nil _, HE.out.trans E1.out⟩
    | some σ1 =>
      rw [leastP_end hen (by omega)]
      rw [hen] at hLays
      have hm : m = n0 := by omega
      subst hm
      clear hen hfa hta hni hh hσ hr
      go_enter Try.func39, Try.ntmps39
      go_wp2_with (rw [HW2.out]; (with_reducible refine (hLays.out _ HE.out).mono ?_); rintro e w1 ⟨rfl, h2⟩; have E1 := hide h2; have b2 : w1.cell? ⟨w.heap.size, 2, none⟩ = some (.slice B m d) := (HB0.out.ext h2).cell 2; clear h2)
      go_ret2
      have e1 := HL.out.2.2
      exact ⟨A0, c0, by rw [Option.getD_some, ← e1]; rfl, by rw [Option.getD_some, ← e1]; exact HI.out.ext RN.stab (HE.out.trans E1.out), HE.out.trans E1.out⟩
  | succ r ih =>
    intro im A0 n0 c0 w hf ht hI hr hij
    have hfl : f.atoms.length ≤ 1048576 := hMf.atomsL
    have hLays := hide (fun w1 (h1 : Ext w w1) => lays_any f t LF LT im A0 n0 c0 w1 (hf.ext h1) (ht.ext h1) hMf hMt hd hh (hI.ext RN.stab h1) (by omega) hij)
    have hfa := hf.atoms.len; have hta := ht.atoms.len; have hni := hI.len
    generalize hσ : env0 f.head t.head envNone = σ0 at *
    have HL := hide (And.intro hfa (And.intro hta hni))
    have HQF := hide hf; have HQT := hide ht; have HI := hide hI; have HIJ := hide hij
    clear hf ht hI hij
    have HE := hide ((Ext.alloc w (.cells #[.string f.name, .slice LF.A LF.n LF.c, .slice LF.B LF.m LF.d] 25)).alloc' (.cells #[.string t.name, .slice LT.A LT.n LT.c, .slice LT.B LT.m LT.d] 25))
    have HB0 := hide ((Blk.new w 25 #[.string f.name, .slice LF.A LF.n LF.c, .slice LF.B LF.m LF.d]).ext (Ext.alloc _ (.cells #[.string t.name, .slice LT.A LT.n LT.c, .slice LT.B LT.m LT.d] 25)))
    have HB1 := hide (show Blk ((w.alloc (.cells #[.string f.name, .slice LF.A LF.n LF.c, .slice LF.B LF.m LF.d] 25)).alloc (.cells #[.string t.name, .slice LT.A LT.n LT.c, .slice LT.B LT.m LT.d] 25)) (w.heap.size + 1) 25 #[.string t.name, .slice LT.A LT.n LT.c, .slice LT.B LT.m LT.d] from Blk.newAt (World.size_alloc _ _))
    generalize hW2 : (w.alloc (.cells #[.string f.name, .slice LF.A LF.n LF.c, .slice LF.B LF.m LF.d] 25)).alloc (.cells #[.string t.name, .slice LT.A LT.n LT.c, .slice LT.B LT.m LT.d] 25) = W2 at *
    have hs2 : W2.heap.size = w.heap.size + 1 + 1 := by rw [← hW2]; simp
    have HS2 := hide hs2; have HW2 := hide hW2; clear hs2 hW2
    obtain ⟨A, n, c, B, m, d⟩ := LF
    obtain ⟨A', n', c', B', m', d'⟩ := LT
    simp only [qval] at *
    cases hen : envIm f.atoms t.atoms im 0 σ0 with
    | none =>
      rw [leastP_bad hen]
      rw [hen] at hLays
      clear hen hfa hta hni hh hσ hr
      go_enter Try.func39, Try.ntmps39
      go_wp2_with (rw [HW2.out]; (with_reducible refine (hLays.out _ HE.out).mono ?_); rintro e w1 ⟨rfl, h2⟩; have E1 := hide h2; clear h2)
      go_ret2
      exact ⟨none, 0, rfl, LAt.nil _, HE.out.trans E1.out⟩
    | some σ1 =>
      have hlt : n0 < m := by omega
      have hne : ((n0 : Int) == (m : Int)) = false := by simp; omega
      rw [leastP_step hen (by omega)]
      rw [hen] at hLays
      have hmt : m' ≤ 1048576 := by have := hMt.atomsL; omega
      have IH := hide ih; clear ih
      have hnb : n0 ≤ 1048576 := by omega
      have Hr := hide hr
      clear hen hfa hta hni hh hσ hr hfl
      go_enter Try.func39, Try.ntmps39
      go_wp2_with (rw [HW2.out]; (with_reducible refine (hLays.out _ HE.out).mono ?_); rintro e w1 ⟨rfl, h2⟩; have E1 := hide h2; have b2 : w1.cell? ⟨w.heap.size, 2, none⟩ = some (.slice B m d) := (HB0.out.ext h2).cell 2; clear h2)
      go_loopw [6, 7, 8, 9, 10] (fun _ _ s8 _ _ w' => ∃ j : Nat, j ≤ m' ∧ s8 = .int .i64 j ∧ Hid (leastFrom f.atoms t.atoms σ0 im 0 = leastFrom f.atoms t.atoms σ0 im j) ∧ Hid (Ext W2 w')) (fun _ _ s8 _ _ _ => m' - (intOf s8).toNat)
      case atStart => exact ⟨0, by omega, rfl, rfl, E1.out⟩
      case round =>
        obtain ⟨j, hj, rfl, hlf, hX⟩ := hrel
        have b0 : wr.cell? ⟨w.heap.size, 0, none⟩ = some (.string f.name) := (HB0.out.ext hX.out).cell 0
        have b1 : wr.cell? ⟨w.heap.size, 1, none⟩ = some (.slice A n c) := (HB0.out.ext hX.out).cell 1
        have b2 : wr.cell? ⟨w.heap.size, 2, none⟩ = some (.slice B m d) := (HB0.out.ext hX.out).cell 2
        have e0 : wr.cell? ⟨w.heap.size + 1, 0, none⟩ = some (.string t.name) := (HB1.out.ext hX.out).cell 0
        have e1 : wr.cell? ⟨w.heap.size + 1, 1, none⟩ = some (.slice A' n' c') := (HB1.out.ext hX.out).cell 1
        have e2 : wr.cell? ⟨w.heap.size + 1, 2, none⟩ = some (.slice B' m' d') := (HB1.out.ext hX.out).cell 2
        by_cases h : j < m'
        · have hst := hide (hlf.out.trans (leastFrom_step (by have := HL.out; omega)))
          have HXw := hide (HE.out.trans hX.out)
          have HINT := hide (fun w1 (h1 : Ext wr w1) => ints_n im A0 n0 c0 w1 (HI.out.ext RN.stab (HXw.out.trans h1)) (by omega))
          have HREC := hide (fun A6 c6 w1 (h1 : Ext wr w1) (hl : LAt RN 1 w1 A6 (n0 + 1) (im ++ [j])) => IH.out (im ++ [j]) A6 (n0 + 1) c6 w1 (HQF.out.ext (HXw.out.trans h1)) (HQT.out.ext (HXw.out.trans h1)) hl (by have := Hr.out; omega) (by
            intro k hk
            rcases List.mem_append.1 hk with hk | hk
            · exact HIJ.out k hk
            · obtain rfl := List.mem_singleton.1 hk
              have := HL.out; omega))
          have hil := hide (show n0 = im.length by have := HL.out; omega)
          generalize leastP f.atoms t.atoms σ0 (im ++ [j]) = o at *
          go_wp2_with fail
          have S0 : Hid (wr.cell? ⟨w.heap.size, 0, none⟩ = some (.string f.name) ∧ wr.cell? ⟨w.heap.size, 1, none⟩ = some (.slice A n c) ∧ wr.cell? ⟨w.heap.size, 2, none⟩ = some (.slice B m d) ∧ wr.cell? ⟨w.heap.size + 1, 0, none⟩ = some (.string t.name) ∧ wr.cell? ⟨w.heap.size + 1, 1, none⟩ = some (.slice A' n' c') ∧ wr.cell? ⟨w.heap.size + 1, 2, none⟩ = some (.slice B' m' d')) := ⟨b0, b1, b2, e0, e1, e2⟩
          go_region_held3 (fun w' => w'.cell? ⟨w.heap.size, 0, none⟩ = some (.string f.name) ∧ w'.cell? ⟨w.heap.size, 1, none⟩ = some (.slice A n c) ∧ w'.cell? ⟨w.heap.size, 2, none⟩ = some (.slice B m d) ∧ w'.cell? ⟨w.heap.size + 1, 0, none⟩ = some (.string t.name) ∧ w'.cell? ⟨w.heap.size + 1, 1, none⟩ = some (.slice A' n' c') ∧ w'.cell? ⟨w.heap.size + 1, 2, none⟩ = some (.slice B' m' d'))
            (first
              | (exact ⟨h9.cell S0.out.1, h9.cell S0.out.2.1, h9.cell S0.out.2.2.1, h9.cell S0.out.2.2.2.1, h9.cell S0.out.2.2.2.2.1, h9.cell S0.out.2.2.2.2.2⟩)
              | (exact ⟨h7.cell S0.out.1, h7.cell S0.out.2.1, h7.cell S0.out.2.2.1, h7.cell S0.out.2.2.2.1, h7.cell S0.out.2.2.2.2.1, h7.cell S0.out.2.2.2.2.2⟩)
              | (exact ⟨h5.cell S0.out.1, h5.cell S0.out.2.1, h5.cell S0.out.2.2.1, h5.cell S0.out.2.2.2.1, h5.cell S0.out.2.2.2.2.1, h5.cell S0.out.2.2.2.2.2⟩)
              | go_keep)
            (first
              | (go_at_call 66; refine (HINT.out _ (Ext.drew wr)).mono ?_; rintro e w5 ⟨A5, c5, rfl, o5, x5⟩; have h5 := (Ext.drew wr).trans x5; have p5 := own_base o5 (Ext.drew wr).size)
              | (go_at_call 66; refine (HINT.out _ (Ext.drew' (Ext.alloc wr _))).mono ?_; rintro e w5 ⟨A5, c5, rfl, o5, x5⟩; have h5 := (Ext.drew' (Ext.alloc wr _)).trans x5; have p5 := own_base o5 (Ext.drew' (Ext.alloc wr _)).size)
              | ((refine step_ap_int hi0 hz0 hz1 hz2 (h5.alloc' _) (p5.alloc _) (by rfl) _ _ (by rfl) (by rfl) w5.heap.size (by rfl) (Blk.new w5 _ _) (by omega) ?_); intro A6 c6 w6 o7 h7)
              | ((refine step_ap_int hi0 hz0 hz1 hz2 h5 p5 (by rfl) _ _ (by rfl) (by rfl) wr.heap.size (by rfl) (((Blk.new wr _ _).ext (Ext.drew _)).ext x5) (by omega) ?_); intro A6 c6 w6 o7 h7)
              | (go_at_call 39; refine (HREC.out A6 c6 w6 h7 (own_num (by simp; exact hil.out) o7)).mono ?_; rintro e w8 ⟨A8, c8, rfl, l8, x8⟩; have h9 := h7.trans x8))
          all_goals
            have X8 := hide h9
            have L8 := hide l8
            clear h9 l8 x8 o7 h7 p5 h5 x5 o5 b0 b1 b2 e0 e1 e2 HINT HREC
            cases o with
            | some l =>
              go_wp2_with fail
              go_ret2
              rw [hst.out]
              exact ⟨A8, c8, rfl, L8.out, HXw.out.trans X8.out⟩
            | none =>
              go_wp2_with fail
              go_roundw
              case rel => exact ⟨j + 1, by omega, by go_num, by rw [Hid, hst.out], hX.out.trans X8.out⟩
              case measure => simp [intOf]; omega
        · have hdn := hide (hlf.out.trans (leastFrom_end (by have := HL.out; omega)))
          go_wp2_with fail
          go_ret2
          rw [hdn.out]
          exact ⟨none, 0, rfl, LAt.nil _, HE.out.trans hX.out⟩
end Go.Proofs.Ythjpcnceppmnmaa

namespace Go.Proofs.Ythjpcnceppmnmaa
open Go.RowKit

theorem leastP_nil (f t : Qy) : leastP f.atoms t.atoms (env0 f.head t.head envNone) [] = findP f t := by
  have h : envIm f.atoms t.atoms [] 0 (env0 f.head t.head envNone) = some (env0 f.head t.head envNone) := rfl
  unfold leastP
  rw [h]
  simp [findP]
def RetFR (w0 : World) (r : List Nat × Bool × Int) (en : Ending) (w' : World) : Prop :=
  ∃ A c, en = .returned (.tuple #[.slice A r.1.length c, .bool r.2.1, .int .i64 r.2.2]) ∧ LAt RN 1 w' A r.1.length r.1 ∧ Ext w0 w'

set_option maxHeartbeats 8000000 in
set_option maxRecDepth 100000 in
theorem ref_find (f t : Qy) (LF LT : QLoc) (w : World) (hf : QAt w LF f) (ht : QAt w LT t) (hMf : smallM 1048576 f) (hMt : smallM 1048576 t) :
    Calls Try.prog 14 #[qval f.name LF, qval t.name LT] w (RetFR w (findR f t)) := by
  have HSF := hide (fun w1 (h1 : Ext w w1) => ref_shape f LF w1 (hf.ext h1) hMf)
  have HST := hide (fun w1 (h1 : Ext w w1) => ref_shape t LT w1 (ht.ext h1) hMt)
  have HLE := hide (fun (hd : dblB f.head = false) (hh : f.head.length = t.head.length) w1 (h1 : Ext w w1) => least_any f t LF LT hMf hMt hd hh f.atoms.length [] none 0 0 w1 (hf.ext h1) (ht.ext h1) (LAt.nil _) (by omega) (fun j hj => by cases hj))
  have hnf := hf.head.len; have hnt := ht.head.len
  have HL := hide (And.intro hnf hnt)
  have HE := hide ((Ext.alloc w (.cells #[.string f.name, .slice LF.A LF.n LF.c, .slice LF.B LF.m LF.d] 25)).alloc' (.cells #[.string t.name, .slice LT.A LT.n LT.c, .slice LT.B LT.m LT.d] 25))
  have HB0 := hide ((Blk.new w 25 #[.string f.name, .slice LF.A LF.n LF.c, .slice LF.B LF.m LF.d]).ext (Ext.alloc _ (.cells #[.string t.name, .slice LT.A LT.n LT.c, .slice LT.B LT.m LT.d] 25)))
  have HB1 := hide (show Blk ((w.alloc (.cells #[.string f.name, .slice LF.A LF.n LF.c, .slice LF.B LF.m LF.d] 25)).alloc (.cells #[.string t.name, .slice LT.A LT.n LT.c, .slice LT.B LT.m LT.d] 25)) (w.heap.size + 1) 25 #[.string t.name, .slice LT.A LT.n LT.c, .slice LT.B LT.m LT.d] from Blk.newAt (World.size_alloc _ _))
  generalize hW2 : (w.alloc (.cells #[.string f.name, .slice LF.A LF.n LF.c, .slice LF.B LF.m LF.d] 25)).alloc (.cells #[.string t.name, .slice LT.A LT.n LT.c, .slice LT.B LT.m LT.d] 25) = W2 at *
  have HW2 := hide hW2; clear hW2 hf ht hMf hMt
  have hrng := shapeQ_rng f
  have hrngt := shapeQ_rng t
  obtain ⟨A, n, c, B, m, d⟩ := LF
  obtain ⟨A', n', c', B', m', d'⟩ := LT
  simp only [qval] at *
  have e0 : W2.cell? ⟨w.heap.size, 0, none⟩ = some (.string f.name) := HB0.out.cell 0
  have e1 : W2.cell? ⟨w.heap.size, 1, none⟩ = some (.slice A n c) := HB0.out.cell 1
  have e2 : W2.cell? ⟨w.heap.size, 2, none⟩ = some (.slice B m d) := HB0.out.cell 2
  by_cases h1 : shapeQ f = 0
  · by_cases h2 : shapeQ t = 0
    · rw [h1] at HSF
      rw [h2] at HST
      by_cases h3 : n = n'
      · have hr := hide (show findR f t = ((findP f t).getD [], (findP f t).isSome, 0) by
          have hsp : shapesP f t = 0 := by
            unfold shapesP
            rw [if_neg (by simpa using h1), if_neg (by simpa using h2), if_neg (by omega)]
          rw [findR, if_neg (by simpa using hsp)]
          cases findP f t <;> rfl)
        have HLE2 := hide (HLE.out (shapeQ_ok h1).2.2.2.2.1 (by omega))
        rw [leastP_nil] at HLE2
        rw [hr.out]
        generalize findP f t = o at *
        subst h3
        clear h1 h2 hrng hrngt hnf hnt HLE hr
        go_enter Try.func14, Try.ntmps14
        go_wp2_with (first
          | (rw [HW2.out]; (with_reducible refine (HSF.out _ HE.out).mono ?_); rintro e w1 ⟨rfl, h2⟩; have E1 := hide h2; have b0 := (HB1.out.ext h2).cell 0; have b1 := (HB1.out.ext h2).cell 1; have b2 := (HB1.out.ext h2).cell 2; clear h2)
          | ((with_reducible refine (HST.out _ (HE.out.trans E1.out)).mono ?_); rintro e w2 ⟨rfl, h2⟩; have E2 := hide (E1.out.trans h2); have d0 := (HB1.out.ext E2.out).cell 0; have d1 := (HB1.out.ext E2.out).cell 1; have d2 := (HB1.out.ext E2.out).cell 2; have a0 := (HB0.out.ext E2.out).cell 0; have a1 := (HB0.out.ext E2.out).cell 1; have a2 := (HB0.out.ext E2.out).cell 2; clear h2)
          | ((with_reducible refine (HLE2.out _ (HE.out.trans E2.out)).mono ?_); rintro e w3 ⟨A3, c3, rfl, l3, h2⟩; have E3 := hide h2; have L3 := hide l3; clear h2 l3))
        go_ret3
        exact ⟨A3, c3, rfl, L3.out, (HE.out.trans E2.out).trans E3.out⟩
      · have hr := hide (show findR f t = ([], false, 92) by
          have hsp : shapesP f t = 92 := by
            unfold shapesP
            rw [if_neg (by simpa using h1), if_neg (by simpa using h2), if_pos (by omega)]
          rw [findR, if_pos (by rw [hsp]; decide), hsp])
        rw [hr.out]
        have hne : ((n : Int) != (n' : Int)) = true := by simp; omega
        clear h1 h2 h3 hrng hrngt hnf hnt HLE hr
        go_enter Try.func14, Try.ntmps14
        go_wp2_with (first
          | (rw [HW2.out]; (with_reducible refine (HSF.out _ HE.out).mono ?_); rintro e w1 ⟨rfl, h2⟩; have E1 := hide h2; have b0 := (HB1.out.ext h2).cell 0; have b1 := (HB1.out.ext h2).cell 1; have b2 := (HB1.out.ext h2).cell 2; clear h2)
          | ((with_reducible refine (HST.out _ (HE.out.trans E1.out)).mono ?_); rintro e w2 ⟨rfl, h2⟩; have E2 := hide (E1.out.trans h2); have d1 := (HB1.out.ext E2.out).cell 1; have a1 := (HB0.out.ext E2.out).cell 1; clear h2))
        go_ret3
        exact ⟨none, 0, rfl, LAt.nil _, HE.out.trans E2.out⟩
    · have hr := hide (show findR f t = ([], false, shapeQ t) by
        have hsp : shapesP f t = shapeQ t := by
          unfold shapesP
          rw [if_neg (by simpa using h1), if_pos h2]
        rw [findR, hsp, if_pos h2])
      rw [hr.out]
      rw [h1] at HSF
      have hne : (shapeQ t != 0) = true := by simpa using h2
      generalize shapeQ t = st at *
      clear h1 h2 hnf hnt HLE hr
      go_enter Try.func14, Try.ntmps14
      go_wp2_with (first
        | (rw [HW2.out]; (with_reducible refine (HSF.out _ HE.out).mono ?_); rintro e w1 ⟨rfl, h2⟩; have E1 := hide h2; have b0 := (HB1.out.ext h2).cell 0; have b1 := (HB1.out.ext h2).cell 1; have b2 := (HB1.out.ext h2).cell 2; clear h2)
        | ((with_reducible refine (HST.out _ (HE.out.trans E1.out)).mono ?_); rintro e w2 ⟨rfl, h2⟩; have E2 := hide (E1.out.trans h2); clear h2))
      go_ret3
      exact ⟨none, 0, rfl, LAt.nil _, HE.out.trans E2.out⟩
  · have hr := hide (show findR f t = ([], false, shapeQ f) by
      have hsp : shapesP f t = shapeQ f := by
        unfold shapesP
        rw [if_pos h1]
      rw [findR, hsp, if_pos h1])
    rw [hr.out]
    have hne : (shapeQ f != 0) = true := by simpa using h1
    generalize shapeQ f = st at *
    clear h1 hnf hnt HLE hr
    go_enter Try.func14, Try.ntmps14
    go_wp2_with (rw [HW2.out]; (with_reducible refine (HSF.out _ HE.out).mono ?_); rintro e w1 ⟨rfl, h2⟩; have E1 := hide h2; clear h2)
    go_ret3
    exact ⟨none, 0, rfl, LAt.nil _, HE.out.trans E1.out⟩

set_option maxHeartbeats 8000000 in
set_option maxRecDepth 100000 in
theorem ref_equal (f t : Qy) (LF LT : QLoc) (w : World) (hf : QAt w LF f) (ht : QAt w LT t) (hMf : smallM 1048576 f) (hMt : smallM 1048576 t) :
    Calls Try.prog 20 #[qval f.name LF, qval t.name LT] w fun e w' => e = .returned (.tuple #[.bool (eqR f t).1, .int .i64 (eqR f t).2]) ∧ Ext w w' := by
  have HF := hide (fun w1 (h1 : Ext w w1) => ref_find f t LF LT w1 (hf.ext h1) (ht.ext h1) hMf hMt)
  have HT := hide (fun w1 (h1 : Ext w w1) => ref_find t f LT LF w1 (ht.ext h1) (hf.ext h1) hMt hMf)
  clear hf ht hMf hMt
  have hE := (Ext.alloc w (.cells #[.string f.name, .slice LF.A LF.n LF.c, .slice LF.B LF.m LF.d] 25)).alloc' (.cells #[.string t.name, .slice LT.A LT.n LT.c, .slice LT.B LT.m LT.d] 25)
  have HB0 := hide (((Blk.new w 25 #[.string f.name, .slice LF.A LF.n LF.c, .slice LF.B LF.m LF.d]).ext (Ext.alloc _ (.cells #[.string t.name, .slice LT.A LT.n LT.c, .slice LT.B LT.m LT.d] 25))))
  have HB1 := hide (Blk.new (w.alloc (.cells #[.string f.name, .slice LF.A LF.n LF.c, .slice LF.B LF.m LF.d] 25)) 25 #[.string t.name, .slice LT.A LT.n LT.c, .slice LT.B LT.m LT.d])
  rw [World.size_alloc] at HB1
  have HE := hide hE; clear hE
  unfold eqR
  have hrng := findR_rng f t
  have hno : (findR f t).2.2 ≠ 0 → (findR f t).2.1 = false := by
    intro h
    unfold findR at h ⊢
    split
    · rfl
    · rename_i h2
      rw [if_neg h2] at h
      split at h <;> exact absurd rfl h
  generalize findR f t = r at *
  generalize findR t f = r' at *
  obtain ⟨im, ok, er⟩ := r
  obtain ⟨im', ok', er'⟩ := r'
  obtain ⟨A, n, c, B, m, d⟩ := LF
  obtain ⟨A', n', c', B', m', d'⟩ := LT
  simp only [qval] at *
  by_cases h0 : er = 0
  · subst h0
    simp only [ne_eq, not_true_eq_false, if_false]
    clear hno hrng
    cases ok
    all_goals
      go_enter Try.func20, Try.ntmps20
      go_wp2_with (first | ((with_reducible refine (HF.out _ HE.out).mono ?_); rintro e w1 ⟨A1, c1, rfl, _, h2⟩; have E1 := hide h2; have a0 := (HB0.out.ext h2).cell 0; have a1 := (HB0.out.ext h2).cell 1; have a2 := (HB0.out.ext h2).cell 2; have b0 := (HB1.out.ext h2).cell 0; have b1 := (HB1.out.ext h2).cell 1; have b2 := (HB1.out.ext h2).cell 2; clear h2) | ((with_reducible refine (HT.out _ (HE.out.trans E1.out)).mono ?_); rintro e w2 ⟨A2, c2, rfl, _, h3⟩; have E2 := hide h3; clear h3))
      go_ret2
      exact ⟨by simp_all, (HE.out.trans E1.out).trans E2.out⟩
  · simp only [ne_eq, h0, not_false_eq_true, if_true]
    have hok : ok = false := hno h0
    subst hok
    have h1 : (er == 0) = false := by simpa using h0
    clear h0 hno
    go_enter Try.func20, Try.ntmps20
    go_wp2_with (first | ((with_reducible refine (HF.out _ HE.out).mono ?_); rintro e w1 ⟨A1, c1, rfl, _, h2⟩; have E1 := hide h2; have a0 := (HB0.out.ext h2).cell 0; have a1 := (HB0.out.ext h2).cell 1; have a2 := (HB0.out.ext h2).cell 2; have b0 := (HB1.out.ext h2).cell 0; have b1 := (HB1.out.ext h2).cell 1; have b2 := (HB1.out.ext h2).cell 2; clear h2) | ((with_reducible refine (HT.out _ (HE.out.trans E1.out)).mono ?_); rintro e w2 ⟨A2, c2, rfl, _, h3⟩; have E2 := hide h3; clear h3))
    go_ret2
    exact ⟨by simp_all, (HE.out.trans E1.out).trans E2.out⟩
end Go.Proofs.Ythjpcnceppmnmaa

namespace Go.Proofs.Ythjpcnceppmnmaa
open Go.RowKit

def awT : Tm := ⟨⟨#[120]⟩, ⟨0, 0, .empty⟩⟩
def awA : Atm := ⟨⟨#[82]⟩, [awT]⟩
def awQ : Qy := ⟨⟨#[81]⟩, [⟨#[120]⟩], [awA]⟩
theorem aw_find : findR awQ awQ = ([0], true, 0) := by decide +kernel

theorem aw_small : smallM 1048576 awQ := by
  refine ⟨by decide, by decide, ?_, by decide, ?_⟩
  · intro h hh
    obtain rfl := List.mem_singleton.1 hh
    decide
  · intro a ha
    obtain rfl := List.mem_singleton.1 ha
    refine ⟨by decide, by decide, ?_⟩
    intro t ht
    obtain rfl := List.mem_singleton.1 ht
    exact ⟨by decide, by decide, ⟨by decide, by decide⟩⟩
theorem aw_at (w : World) : QAt ((((w.alloc (.cells #[.string ⟨#[120]⟩] 9)).alloc (.cells #[.string ⟨#[120]⟩, .int .i64 0, .int .i64 0, .string ⟨#[]⟩] 76)).alloc (.cells #[.string ⟨#[82]⟩, .slice (some ⟨w.heap.size + 1, 0, none⟩) 1 1] 43)).alloc
      (.cells #[.string ⟨#[81]⟩, .slice (some ⟨w.heap.size, 0, none⟩) 1 1, .slice (some ⟨w.heap.size + 1 + 1, 0, none⟩) 1 1] 25)) ⟨some ⟨w.heap.size, 0, none⟩, 1, 1, some ⟨w.heap.size + 1 + 1, 0, none⟩, 1, 1⟩ awQ := by
  generalize hc0 : (#[.string ⟨#[120]⟩] : Array Value) = c0
  generalize hc1 : (#[.string ⟨#[120]⟩, .int .i64 0, .int .i64 0, .string ⟨#[]⟩] : Array Value) = c1
  generalize hc2 : (#[.string ⟨#[82]⟩, .slice (some ⟨w.heap.size + 1, 0, none⟩) 1 1] : Array Value) = c2
  generalize hc3 : (#[.string ⟨#[81]⟩, .slice (some ⟨w.heap.size, 0, none⟩) 1 1, .slice (some ⟨w.heap.size + 1 + 1, 0, none⟩) 1 1] : Array Value) = c3
  have b0 := (((Blk.new w 9 c0).ext (Ext.alloc _ (.cells c1 76))).ext (Ext.alloc _ (.cells c2 43))).ext (Ext.alloc _ (.cells c3 25))
  have b1 := ((Blk.newAt (t := 76) (cs := c1) (World.size_alloc w (.cells c0 9))).ext (Ext.alloc _ (.cells c2 43))).ext (Ext.alloc _ (.cells c3 25))
  have b2 := (Blk.newAt (w := (w.alloc (.cells c0 9)).alloc (.cells c1 76)) (t := 43) (cs := c2) (g := w.heap.size + 1 + 1) (by simp)).ext (Ext.alloc _ (.cells c3 25))
  generalize (((w.alloc (.cells c0 9)).alloc (.cells c1 76)).alloc (.cells c2 43)).alloc (.cells c3 25) = W at *
  subst hc0; subst hc1; subst hc2
  have h1 : LAt RT 4 W (some ⟨w.heap.size + 1, 0, none⟩) 1 [awT] := blk_terms (ts := [awT]) b1
  refine ⟨blk_texts (xs := [⟨#[120]⟩]) b0, ⟨rfl, [.string ⟨#[82]⟩, .slice (some ⟨w.heap.size + 1, 0, none⟩) 1 1], Els.single (x := awA) rfl ?_ ⟨_, _, _, rfl, h1⟩, ?_⟩, Nat.le_refl _⟩
  · intro v hv
    simp only [List.mem_cons, List.not_mem_nil, or_false] at hv
    rcases hv with rfl | rfl <;> rfl
  · exact b2.sl (n := 1) (size := 2) rfl

set_option maxHeartbeats 2000000 in
set_option maxRecDepth 100000 in
theorem awake_any (w : World) : Calls Try.prog 15 #[] w fun e w' => e = .returned (.bool true) ∧ Ext w w' := by
  have HF := hide (find_any awQ awQ _ _ _ (aw_at w) (aw_at w) aw_small aw_small)
  rw [aw_find] at HF
  simp only [qval, awQ] at HF
  have HE := hide ((((Ext.alloc w (.cells #[.string ⟨#[120]⟩] 9)).alloc' (.cells #[.string ⟨#[120]⟩, .int .i64 0, .int .i64 0, .string ⟨#[]⟩] 76)).alloc' (.cells #[.string ⟨#[82]⟩, .slice (some ⟨w.heap.size + 1, 0, none⟩) 1 1] 43)).alloc'
      (.cells #[.string ⟨#[81]⟩, .slice (some ⟨w.heap.size, 0, none⟩) 1 1, .slice (some ⟨w.heap.size + 1 + 1, 0, none⟩) 1 1] 25))
  go_enter Try.func15, Try.ntmps15
  go_wp2_with fail
  refine HF.out.mono ?_
  rintro e w1 ⟨A, c, rfl, ho, h2⟩
  have E1 := hide h2
  obtain ⟨b, off, x, rfl, hx, hb, hc⟩ := (own_num rfl ho).num (i := 0) (by decide)
  obtain rfl : 0 = x := by simpa using hx
  rw [Nat.add_zero] at hc
  have hc2 : w1.cell? ⟨b, off, none⟩ = some (.int .i64 0) := hc
  clear h2 ho hx hc
  simp only [List.length_cons, List.length_nil]
  go_wp2_with fail
  go_ret
  exact ⟨rfl, HE.out.trans E1.out⟩
end Go.Proofs.Ythjpcnceppmnmaa
