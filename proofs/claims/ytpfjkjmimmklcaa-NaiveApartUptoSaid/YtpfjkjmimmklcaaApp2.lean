/-
  Two rows of a call's own, each grown by one element, in one statement that draws its order.
-/
import Derived.Test.YtpfjkjmimmklcaaLaysP
import Derived.Deep.RegionHeld3
import Derived.Deep.AppendLies
namespace Go.Proofs.Ytpfjkjmimmklcaa
open Go.RowKit

structure LayInv (W w : World) (σ : Env) (A : Option Addr) (c : Nat) (B : Option Addr) (d : Nat) (xs : List ByteArray) (ys : List Tm) : Prop where
  len : xs.length = ys.length
  env : lk xs ys = σ
  ownV : w.ownsRow W.heap.size 9 1 (.slice A xs.length c) xs.length (strC xs)
  ownT : w.ownsRow W.heap.size 60 4 (.slice B ys.length d) ys.length (tmC ys)
  ext : Ext W w
theorem LayInv.go {W w w' : World} {σ : Env} {A B : Option Addr} {c d : Nat} {xs : List ByteArray} {ys : List Tm} (h : LayInv W w σ A c B d xs ys) (hw : Ext w w') : LayInv W w' σ A c B d xs ys :=
  ⟨h.len, h.env, own_ext h.ownV hw, own_ext h.ownT hw, h.ext.trans hw⟩
theorem own_blk {w : World} {base g : Nat} {e : TypeId} {xs : List Value} {n : Nat} (hb : Blk w g e xs.toArray) (hg : base ≤ g) (hl : xs.length = n) (hm : n ≤ maxLen) : w.ownsRow base e 1 (.slice (some ⟨g, 0, none⟩) n n) n xs :=
  ⟨by omega, .inr ⟨g, n, _, rfl, hg, hb, Nat.le_refl _, hm, by simp [hl], List.take_of_length_le (by simp [hl])⟩⟩

structure AP1 (W : World) (g1 g2 : Nat) (cs1 cs2 : Array Value) (B6 : Option Addr) (d6 : Nat) (xs : List ByteArray) (ys : List Tm) (x : ByteArray) (A6 : Option Addr) (c6 : Nat) (w : World) : Prop where
  ext : Ext W w
  own1 : w.ownsRow W.heap.size 9 1 (.slice A6 (xs.length + 1) c6) (xs.length + 1) (strC (xs ++ [x]))
  own2 : w.ownsRow W.heap.size 60 4 (.slice B6 ys.length d6) ys.length (tmC ys)
  b1 : Blk w g1 40 cs1
  b2 : Blk w g2 40 cs2
theorem AP1.go {W w w' : World} {g1 g2 : Nat} {cs1 cs2 : Array Value} {B6 A6 : Option Addr} {d6 c6 : Nat} {xs : List ByteArray} {ys : List Tm} {x : ByteArray} (h : AP1 W g1 g2 cs1 cs2 B6 d6 xs ys x A6 c6 w) (hw : Ext w w') : AP1 W g1 g2 cs1 cs2 B6 d6 xs ys x A6 c6 w' :=
  ⟨h.ext.trans hw, own_ext h.own1 hw, own_ext h.own2 hw, h.b1.ext hw, h.b2.ext hw⟩
theorem own_other {w w' : World} {b1 b2 : Nat} {e1 e2 : TypeId} {s1 s2 n1 n2 : Nat} {v1 v2 : Value} {x1 x2 : List Value} (h2 : w.ownsRow b2 e2 s2 v2 n2 x2) (h1 : w.ownsRow b1 e1 s1 v1 n1 x1) (hne : e1 ≠ e2) (hg : w.grownBy w' v1.ownBlock) : w'.ownsRow b2 e2 s2 v2 n2 x2 := by
  refine h2.kept hg ?_
  cases hk : v2.ownBlock with
  | none => exact .inl rfl
  | some k => exact .inr (Ne.symm (own_own h2 h1 (Ne.symm hne) hk))
theorem Blk.newAt {w : World} {g : Nat} {t : TypeId} {cs : Array Value} (h : w.heap.size = g) : Blk (w.alloc (.cells cs t)) g t cs := h ▸ Blk.new w t cs

theorem step_ap1 {W wr w : World} {g1 g2 : Nat} {cs1 cs2 : Array Value} {A5 B6 : Option Addr} {c5 d6 : Nat} {xs : List ByteArray} {ys : List Tm} {σ : Env} {i0 : TypeInfo} {ops : Array Oper} {o : Oper} {a : Act} {K : Act → World → Prop} {Q : Exit → Act → World → Prop} {E : Prop}
    (hi : Try.prog.info? 9 = some i0) (hz : i0.zero = some (.string .empty)) (hsz : i0.size = 1) (hby : i0.bytes = 16)
    (hV : LayInv W wr σ A5 c5 B6 d6 xs ys) (hb1 : Blk wr g1 40 cs1) (hb2 : Blk wr g2 40 cs2)
    (v : ByteArray) (hgd : o.guard = none) (s x : Operand) (ho : o.op = .call { callee := .builtin .append, args := #[s, x], argTypes := #[22, 22] }) (hs : a.eval s = .slice A5 xs.length c5)
    (hw : Ext wr w) (g : Nat) (hx : a.eval x = .slice (some ⟨g, 0, none⟩) 1 1) (hg : Blk w g 9 #[.string v]) (hl : xs.length ≤ 2000000000000)
    (h : ∀ A6 c6 w', AP1 W g1 g2 cs1 cs2 B6 d6 xs ys v A6 c6 w' → w.grownBy w' (Value.slice A5 xs.length c5).ownBlock → K (a.put o.dst (.slice A6 (xs.length + 1) c6)) w') :
    if Region.wanted o (yielded ops a.tmps) = true then Oper.wp Try.prog o a w K Q else E := by
  have o1 := own_ext hV.ownV hw
  have o2 := own_ext hV.ownT hw
  refine step_append_lies w hgd s x _ ho W.heap.size 9 i0 _ 1 16 Try.underlying22 hi hz hsz hby rfl (by omega) _ xs.length (strC xs) hs o1 ⟨g, 0, none⟩ 1 1 [.string v] hx rfl (World.news_of_block hg) (by simp [Value.oneCell']) (by omega) (by unfold maxLen; omega) (by omega) (Nat.le_trans hV.ext.size hw.size) _ rfl ?_
  intro g' cap w' hown hgrow hat hlt
  refine h _ _ _ ⟨?_, ?_, own_other o2 o1 (by decide) hgrow, (hb1.ext hw).grown hgrow (own_ne_blk o1 (hb1.ext hw) (by decide)), (hb2.ext hw).grown hgrow (own_ne_blk o1 (hb2.ext hw) (by decide))⟩ hgrow
  · exact Below.grown (hV.ext.trans hw) hgrow (hV.ext.trans hw).size (fun k hk => (o1.lt k hk).1)
  · rw [strC_snoc]; exact hown

theorem step_ap2 {W w : World} {g1 g2 : Nat} {cs1 cs2 : Array Value} {A6 B6 : Option Addr} {c6 d6 : Nat} {xs : List ByteArray} {ys : List Tm} {σ : Env} {j0 : TypeInfo} {z : Value} {ops : Array Oper} {o : Oper} {a : Act} {K : Act → World → Prop} {Q : Exit → Act → World → Prop} {E : Prop}
    (hi : Try.prog.info? 60 = some j0) (hz : j0.zero = some z) (hzs : z.cells.size = 4) (hsz : j0.size = 4) (hby : j0.bytes = 48)
    (v : ByteArray) (y : Tm) (hV : AP1 W g1 g2 cs1 cs2 B6 d6 xs ys v A6 c6 w) (hlen : xs.length = ys.length) (henv : lk xs ys = σ) (hno : σ v = none)
    (hgd : o.guard = none) (s x : Operand) (ho : o.op = .call { callee := .builtin .append, args := #[s, x], argTypes := #[38, 38] }) (hs : a.eval s = .slice B6 ys.length d6)
    (g : Nat) (hx : a.eval x = .slice (some ⟨g, 0, none⟩) 1 1) (hg : Blk w g 60 #[.string y.v, .int .i64 y.c.k, .int .i64 y.c.i, .string y.c.t]) (hl : xs.length ≤ 2000000000000)
    (h : ∀ B7 d7 w', LayInv W w' (σ.put v y) A6 c6 B7 d7 (xs ++ [v]) (ys ++ [y]) → Blk w' g1 40 cs1 → Blk w' g2 40 cs2 → K (a.put o.dst (.slice B7 (ys.length + 1) d7)) w') :
    if Region.wanted o (yielded ops a.tmps) = true then Oper.wp Try.prog o a w K Q else E := by
  refine step_append_lies w hgd s x _ ho W.heap.size 60 j0 _ 4 48 Try.underlying38 hi hz hsz hby hzs (by omega) _ ys.length (tmC ys) hs hV.own2 ⟨g, 0, none⟩ 1 1 (tmC [y]) hx rfl (World.news_of_block hg) (by simp [Value.oneCell', tmC, Tm.cells]) (by omega) (by unfold maxLen; omega) (by omega) hV.ext.size _ rfl ?_
  intro g' cap w' hown hgrow hat hlt
  refine h _ _ _ ⟨by simp [hlen], ?_, ?_, ?_, ?_⟩ (hV.b1.grown hgrow (own_ne_blk hV.own2 hV.b1 (by decide))) (hV.b2.grown hgrow (own_ne_blk hV.own2 hV.b2 (by decide)))
  · rw [lk_snoc xs ys v y hlen (by rw [henv]; exact hno), henv]
  · have := own_other hV.own1 hV.own2 (by decide) hgrow
    simpa using this
  · rw [tmC_append, List.length_append]; exact hown
  · exact Below.grown hV.ext hgrow hV.ext.size (fun k hk => (hV.own2.lt k hk).1)
end Go.Proofs.Ytpfjkjmimmklcaa
