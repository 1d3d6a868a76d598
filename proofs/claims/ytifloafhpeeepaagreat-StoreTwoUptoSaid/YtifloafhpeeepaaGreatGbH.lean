/-
  The document's store in memory: its rows, those of the mark; an append that keeps what stood ahead.
  The document's store: Put.
  The document's store: Begin, Commit, Rollback, Drop.
  The document's store: Rollback, Drop.
  The document's store: Drop.
  The document's store: Group.
  The document's store: Keys, Next.
-/
import Derived.Test.YtifloafhpeeepaaGreatGbE
import Derived.Test.YtifloafhpeeepaaGreatGbO
namespace Go.Proofs.YtifloafhpeeepaaGreat
open Go.RowKit

section
variable {P : Program}
/-- what stood ahead stays -/
theorem append_keep {w : World} {base : Nat} {t ty e : TypeId} {i : TypeInfo} {z : Value} {size bytes : Nat} (ht : P.underlying t = some (.slice e)) (hi : P.info? e = some i) (hz : i.zero = some z) (hsize : i.size = size) (hby : i.bytes = bytes)
    {v : Value} {n : Nat} {xs : List Value} (hown : w.ownsRow base e size v n xs) {ad : Addr} {m c : Nat} {news : List Value} (hr : Sl w (some ad) m size news) (h1 : OneCells news) (hm : 0 < m) (h63 : n + m ≤ maxLen) (hbytes : (n + m) * bytes ≤ 140737488355328)
    {v' : Value} {w' : World} (hrun : (Builtin.append_ #[t, t] ty #[v, .slice (some ad) m c]).run P w = .ok v' w') (hown' : w'.ownsRow base e size v' (n + m) (xs ++ news)) :
    ∀ (g j : Nat) (u : Value), v.ownBlock = some g → j < n * size → w.cell? ⟨g, j, none⟩ = some u → w'.cell? ⟨g, j, none⟩ = some u := by
  intro g j u hg hj hu
  subst hsize
  subst hby
  have hcells : ∀ (j : Nat) (u : Value), news[j]? = some u → w.cell? (ad.add j) = some u := by
    intro j u hu
    obtain ⟨b, off, h, hc⟩ := hr.2 hm
    injection h with h
    subst h
    rw [add_flat]
    exact hc j u hu
  rcases hown.2 with ⟨rfl, -⟩ | ⟨g', cap, cur, rfl, -, hgc, hnc, hcm, hcs, htake⟩
  · simp [Value.ownBlock] at hg
  · have hgg : g' = g := by simpa [Value.ownBlock] using hg
    subst hgg
    have hlen := hown.1
    by_cases hroom : n + m ≤ cap
    · have hfit : n * i.size + news.length ≤ cur.size := by rw [hr.1, hcs, ← Nat.add_mul]; exact Nat.mul_le_mul_right _ hroom
      have h2 := run_append_room (P := P) w t ty e i ht hi g' n cap cur hgc ad m c news hr.1 hcells h1 hroom hfit
      rw [hrun] at h2
      injection h2 with h2 h3
      subst h2
      have k1 := hown.cells (g := g') rfl
      have k2 := hown'.cells (g := g') rfl
      obtain ⟨y, hy⟩ : ∃ y, xs[j]? = some y := ⟨_, List.getElem?_eq_getElem (by omega)⟩
      have e1 := k1 j y hy
      have e2 := k2 j y (by rw [List.getElem?_append_left (by omega)]; exact hy)
      rw [add_flat, Nat.zero_add] at e1 e2
      rw [hu] at e1
      rw [e2, e1]
    · have holds : ∀ (j : Nat) (u : Value), xs[j]? = some u → w.cell? ((⟨g', 0, none⟩ : Addr).add j) = some u := hown.cells (g := g') rfl
      have hml : maxLen = 9223372036854775807 := rfl
      have h2 := run_append_grow (P := P) w t ty e i z ht hi hz ⟨g', 0, none⟩ n cap xs hlen holds ad m c news hr.1 hcells (by omega) (by omega) (growslice_fits (by omega) hbytes)
      rw [hrun] at h2
      injection h2 with h2 h3
      subst h3
      exact ((Ext.drew w).alloc' _).cell hu
/-- append onto a row of the structure's own; what stood ahead stays -/
theorem wpList_append_k {w : World} {ops : Array Oper} {rest : List Oper} {o : Oper} {a : Act} {Q : Exit → Act → World → Prop} (hgd : o.guard = none) (s x : Operand) (t : TypeId)
    (ho : o.op = .call { callee := .builtin .append, args := #[s, x], argTypes := #[t, t] })
    (B : Nat → Prop) (e : TypeId) (i : TypeInfo) (z : Value) (size bytes : Nat) (ht : P.underlying t = some (.slice e)) (hi : P.info? e = some i) (hz : i.zero = some z)
    (hsize : i.size = size) (hby : i.bytes = bytes) (hzs : z.cells.size = size) (hsz : 0 < size)
    (v : Value) (n : Nat) (xs : List Value) (hs : a.eval s = v) (hown : OwnH w B e size n v xs)
    (ad : Addr) (m c : Nat) (news : List Value) (hx : a.eval x = .slice (some ad) m c) (hr : Sl w (some ad) m size news) (h1 : OneCells news) (hm : 0 < m)
    (h63 : n + m ≤ maxLen) (hbytes : (n + m) * bytes ≤ 140737488355328)
    (h : ∀ A' c' w', Hid (OwnH w' (fun b => B b ∨ b = w.heap.size) e size (n + m) (.slice A' (n + m) c') (xs ++ news)) → Hid (w.grownBy w' v.ownBlock) → Hid (Chg B w w') → Hid (∀ (g j : Nat) (u : Value), v.ownBlock = some g → j < n * size → w.cell? ⟨g, j, none⟩ = some u → w'.cell? ⟨g, j, none⟩ = some u) → Hid ((Value.slice A' (n + m) c').ownBlock = v.ownBlock ∨ (Value.slice A' (n + m) c').ownBlock = some w.heap.size) → wpList P ops Q rest (a.put o.dst (.slice A' (n + m) c')) w') : wpList P ops Q (o :: rest) a w :=
  wpList_plain hgd fun _ hK => by
    obtain ⟨v', w', hrun, h2, h3, h4⟩ := run_append_sl (P := P) w 0 t o.type e i z size bytes ht hi hz hsize hby hzs hsz v n xs hown.own (some ad) m c news hr h1 h63 hbytes (Nat.zero_le _)
    have hkeep := append_keep ht hi hz hsize hby hown.own hr h1 hm h63 hbytes hrun h2
    have hv : ∃ A' c', v' = .slice A' (n + m) c' := by
      rcases h2.2 with ⟨h5, h6⟩ | ⟨g, cap, cur, h5, _⟩
      · exact ⟨none, 0, by rw [h5, h6]⟩
      · exact ⟨_, _, h5⟩
    obtain ⟨A', c', rfl⟩ := hv
    unfold Oper.wp execOp
    simp only [ho, resolve, invoke, builtin, Sem.run_bind, Sem.run_pure, Result.andThen_ok, List.map_toArray, List.map_cons, List.map_nil, hs, hx, hrun]
    refine hK _ _ (h A' c' w' ⟨h2, fun g hg => ?_⟩ h3 ⟨h3.os, h3.tape, h3.output, h3.size, fun k hk hB => h3.block k hk fun e => hB (hown.inB k e.symm)⟩ hkeep h4)
    rcases h4 with h4 | h4
    · exact .inl (hown.inB g (by rw [← h4]; exact hg))
    · rw [h4] at hg
      injection hg with hg
      exact .inr hg.symm
end
/-- a row that lies in the blocks P, as it is told -/
def RB (P : Nat → Prop) : World → List Value → List V → Prop := fun w cs r => ∃ A n c, cs = [.slice A n c] ∧ OwnH w P 43 3 n (.slice A n c) (cellsR r)
theorem RB.keep {P Q : Nat → Prop} {w w' : World} {cs : List Value} {r : List V} (h : RB P w cs r) (hw : Keeps P w w') (hq : ∀ b, P b → Q b) : RB Q w' cs r := by
  obtain ⟨A, n, c, e, ho⟩ := h
  exact ⟨A, n, c, e, (ho.chg hw fun g hg h => h hg).mono hq⟩
/-- the rows at the mark, which may lie in the front of the rows' own block -/
def OldAt (w : World) (P : Nat → Prop) (AR : Option Addr) (nR : Nat) (A : Option Addr) (n : Nat) (rows : List (List V)) : Prop :=
  n = rows.length ∧ (∀ a, A = some a → P a.block) ∧ ∃ cells, Els (RB P) 1 w cells rows ∧ Sl w A n 1 cells ∧ ∀ a b, 0 < n → A = some a → AR = some b → a.block = b.block → a.off = 0 ∧ n ≤ nR
/-- the cells of the document's store -/
def dC (S : SAbs) (AG : Option Addr) (cG : Nat) (AR : Option Addr) (cR : Nat) (Ao : Option Addr) (no co : Nat) : Array Value :=
  #[.int .i64 S.width, .int .i64 S.most, .slice AG S.gs.length cG, .slice AR S.rows.length cR, .bool S.old.isSome, .slice Ao no co]
def intsS (S : SAbs) : List (List Int) := S.gs.map fun g => g.map Int.ofNat
/-- the document's store, in the blocks P -/
structure DPI (w : World) (P : Nat → Prop) (d : Nat) (S : SAbs) (AG : Option Addr) (cG : Nat) (AR : Option Addr) (cR : Nat) (Ao : Option Addr) (no co : Nat) : Prop where
  blk : Blk w d 113 (dC S AG cG AR cR Ao no co)
  inP : P d
  grp : GMade w P AG S.gs.length cG (intsS S)
  rows : Told w P AR S.rows.length cR S.rows
  old : ∀ o, S.old = some o → OldAt w P AR S.rows.length Ao no o
  oldd : ∀ a, Ao = some a → a.block ≠ d
def DP (w : World) (P : Nat → Prop) (d : Nat) (S : SAbs) : Prop := ∃ AG cG AR cR Ao no co, DPI w P d S AG cG AR cR Ao no co
theorem GMade.keep {w w' : World} {P Q : Nat → Prop} {A : Option Addr} {k c : Nat} {gs : List (List Int)} (h : GMade w P A k c gs) (hw : Keeps P w w') (hq : ∀ b, P b → Q b) : GMade w' Q A k c gs := by
  obtain ⟨h1, vs, h2, h3⟩ := h
  refine ⟨h1, vs, (h2.chg hw fun g hg h => h hg).mono hq, fun j g hg => ?_⟩
  obtain ⟨Ak, ck, e, o⟩ := h3 j g hg
  exact ⟨Ak, ck, e, (o.chg hw fun g hg h => h hg).mono hq⟩
theorem OldAt.keep {w w' : World} {P Q : Nat → Prop} {AR A : Option Addr} {nR n : Nat} {rows : List (List V)} (h : OldAt w P AR nR A n rows) (hw : Keeps P w w') (hq : ∀ b, P b → Q b) : OldAt w' Q AR nR A n rows := by
  obtain ⟨h1, h2, cells, h3, h4, h5⟩ := h
  exact ⟨h1, fun a ha => hq _ (h2 a ha), cells, h3.mono fun cs r hr => hr.keep hw hq, h4.chg hw fun a ha h => h (h2 a ha), h5⟩
section
variable {w w' : World} {P Q : Nat → Prop} {d : Nat} {S : SAbs} {AG AR Ao : Option Addr} {cG cR no co : Nat}
theorem DPI.keep (h : DPI w P d S AG cG AR cR Ao no co) (hw : Keeps P w w') (hq : ∀ b, P b → Q b) : DPI w' Q d S AG cG AR cR Ao no co :=
  ⟨hw.blk h.blk (fun hn => hn h.inP), hq _ h.inP, h.grp.keep hw hq, h.rows.keep hw hq, fun o ho => (h.old o ho).keep hw hq, h.oldd⟩
theorem DPI.ext (h : DPI w P d S AG cG AR cR Ao no co) (hw : Ext w w') (hq : ∀ b, P b → Q b) : DPI w' Q d S AG cG AR cR Ao no co := h.keep (Chg.of hw) hq
theorem DP.keep (h : DP w P d S) (hw : Keeps P w w') (hq : ∀ b, P b → Q b) : DP w' Q d S := by
  obtain ⟨AG, cG, AR, cR, Ao, no, co, h⟩ := h
  exact ⟨AG, cG, AR, cR, Ao, no, co, h.keep hw hq⟩
theorem DP.ext (h : DP w P d S) (hw : Ext w w') (hq : ∀ b, P b → Q b) : DP w' Q d S := h.keep (Chg.of hw) hq
theorem DP.chg {C : Nat → Prop} (h : DP w P d S) (hw : Chg C w w') (hC : ∀ b, P b → ¬ C b) : DP w' P d S := h.keep (hw.mono fun g hg _ hp => hC g hp hg) fun _ h => h
/-- a grouping of it -/
theorem DPI.group (h : DPI w P d S AG cG AR cR Ao no co) {k : Nat} {g : List Nat} (hg : S.gs[k]? = some g) : ∃ b Ak ck, AG = some ⟨b, 0, none⟩ ∧ w.cell? ⟨b, k, none⟩ = some (.slice Ak g.length ck) ∧ NumAt w Ak g.length (g.map Int.ofNat) := by
  obtain ⟨h1, vs, h2, h3⟩ := h.grp
  have hk := (List.getElem?_eq_some_iff.1 hg).1
  obtain ⟨Ak, ck, e, o⟩ := h3 k (g.map Int.ofNat) (by unfold intsS; rw [List.getElem?_map, hg]; rfl)
  obtain ⟨b, eA, -, -, hc, -⟩ := h2.at_ (by omega)
  rw [List.length_map] at e o
  exact ⟨b, Ak, ck, eA, hc k _ e, NumAt.own o.own⟩
end
/-- the document's store, as New makes it -/
theorem DNew.dp {w0 w : World} {d : Nat} {width most : Int} {gs : List (List Int)} {n : Nat} (h : DNew w0 w d width most gs n) (hz : goodS width most gs = 0) (hn : n = gs.length) :
    DP w (fun b => w0.heap.size ≤ b ∧ b < w.heap.size) d ⟨width.toNat, most.toNat, gs.map fun g => g.map Int.toNat, [], none⟩ := by
  obtain ⟨A, c, h1, h2, h3, h4⟩ := h
  obtain ⟨k1, k2, k3, k4⟩ := goodS_ok hz
  have hback : ∀ g ∈ gs, (g.map Int.toNat).map Int.ofNat = g := fun g hg => by
    have h5 := hz
    rw [goodS_all (by omega) (by omega) (by omega)] at h5
    have h6 : gs.all (risesS width (-1)) = true := by
      cases hh : gs.all (risesS width (-1)) with
      | true => rfl
      | false => rw [hh] at h5; simp at h5
    exact rises_nat (List.all_eq_true.1 h6 g hg) (by omega)
  have hints : intsS ⟨width.toNat, most.toNat, gs.map fun g => g.map Int.toNat, [], none⟩ = gs := by
    unfold intsS
    rw [List.map_map]
    conv => rhs; rw [← List.map_id gs]
    exact List.map_congr_left fun g hg => hback g hg
  subst hn
  rw [List.take_length] at h2
  refine ⟨A, c, none, 0, none, 0, 0, ?_, ⟨h4, h1.lt⟩, ?_, ⟨rfl, [], OwnH.nil _ _ _ _, .nil⟩, fun o ho => (by cases ho), fun a ha => by cases ha⟩
  · unfold dC
    dsimp only
    rw [List.length_map, show ((width.toNat : Nat) : Int) = width by omega, show ((most.toNat : Nat) : Int) = most by omega]
    exact h1
  · rw [hints]
    dsimp only
    rw [List.length_map]
    obtain ⟨g1, vs, g2, g3⟩ := h2
    refine ⟨g1, vs, ⟨g2.own, fun b hb => ⟨(g2.inB b hb).1, g2.lt b hb⟩⟩, fun j g hg => ?_⟩
    obtain ⟨Ak, ck, e, o⟩ := g3 j g hg
    exact ⟨Ak, ck, e, ⟨o.own, fun b hb => ⟨(o.inB b hb).1, o.lt b hb⟩⟩⟩
end Go.Proofs.YtifloafhpeeepaaGreat

namespace Go.Proofs.YtifloafhpeeepaaGreat
open Go.RowKit

/-- the bounds of a store -/
structure SOk (S : SAbs) : Prop where
  width : S.width ≤ 30
  most : S.most ≤ 65536
  len : S.rows.length ≤ S.most
  rows : ∀ r ∈ S.rows, fitsR S.width r = true ∧ smallR r ∧ wfR r
  gsl : S.gs.length ≤ 4
  gs : ∀ g ∈ S.gs, g.length ≤ 30 ∧ ∀ c ∈ g, c < S.width
  nd : S.rows.Nodup
theorem SOk.small {S : SAbs} (h : SOk S) : ∀ r ∈ S.rows, r.length ≤ 30 := fun r hr => by
  have h1 := (h.rows r hr).1
  unfold fitsR at h1
  rw [Bool.and_eq_true, decide_eq_true_eq] at h1
  have := h1.1; have := h.width; omega
theorem SOk.key {S : SAbs} (h : SOk S) {k : Nat} {g : List Nat} (hg : S.gs[k]? = some g) {r : List V} (hr : r ∈ S.rows) : KeyGood g (keyR g r) :=
  have h1 := h.gs g (List.mem_of_getElem? hg)
  have h2 := h.rows r hr
  keyR_good h2.1 h2.2.1 h2.2.2 h1.1 h1.2
theorem StI.sok {w : World} {B : Nat → Prop} {x : Nat} {S : SAbs} {N : Nat} (h : StI w B x S N) : SOk S := by
  obtain ⟨lab, v, D, P0, F0, k1, k2, k3, k4⟩ := h
  have hr := k4.row
  refine ⟨by rw [k3.width]; exact hr.width, by rw [k3.most]; exact hr.most.2, ?_, fun r hr2 => ?_, by rw [k3.gs]; exact hr.gsl, by rw [k3.gs, k3.width]; exact fun g hg => hr.gs g hg, by rw [k3.rows]; exact hr.vals⟩
  · have h1 := (k1.part 2).ok.live
    have h2 := (k1.part 2).ok.len
    have h3 := hr.lv
    rw [k3.rows, k3.most, List.length_map]; omega
  · rw [k3.rows] at hr2
    obtain ⟨p, hp, rfl⟩ := List.mem_map.1 hr2
    rw [k3.width]
    exact hr.rows p hp
set_option maxRecDepth 100000 in
theorem has_inB (xs : List (List V)) (r : List V) (A B : Option Addr) (n m c d : Nat) (w : World) (ha : LAt RRow 1 w A n xs) (hb : RowAt w B m r) (hn : n ≤ 140737488355328) (hr : ∀ s ∈ xs, s.length ≤ 140737488355328) :
    Calls Tryz.prog 66 #[.slice A n c, .slice B m d] w fun e w' => e = .returned (.bool (inB xs r)) ∧ Ext w w' := by
  have H := hide (place_rows xs r A B n m c d w ha hb hn hr)
  have hp := plcR_iff r xs 0
  cases hi : inB xs r with
  | true =>
    have h0 := hp.2 (inB_iff.1 hi)
    clear ha hb hr hp hi
    generalize plcR r xs 0 = p at *
    go_enter Tryz.func66, Tryz.ntmps66
    go_wp2_with fail
    refine H.out.mono ?_
    rintro e w1 ⟨rfl, h1⟩
    have E1 := hide h1; clear h1
    go_wp2_with fail
    go_ret
    exact ⟨ret_bool (by simp), E1.out⟩
  | false =>
    have h0 : ¬ 0 ≤ plcR r xs 0 := fun h => by
      have := inB_iff.2 (hp.1 h)
      rw [hi] at this; cases this
    clear ha hb hr hp hi
    generalize plcR r xs 0 = p at *
    go_enter Tryz.func66, Tryz.ntmps66
    go_wp2_with fail
    refine H.out.mono ?_
    rintro e w1 ⟨rfl, h1⟩
    have E1 := hide h1; clear h1
    go_wp2_with fail
    go_ret
    exact ⟨ret_bool (by simp; omega), E1.out⟩
set_option maxRecDepth 100000 in
theorem dfits {w : World} {d : Nat} {S : SAbs} {AG AR Ao : Option Addr} {cG cR no co : Nat} (hb : Blk w d 113 (dC S AG cG AR cR Ao no co)) {r : List V} {A : Option Addr} {n : Nat} (c : Nat) (ha : ArgR w A n r) :
    Calls Tryz.prog 97 #[.pointer (some ⟨d, 0, none⟩), .slice A n c] w fun e w' => e = .returned (.bool (fitsR S.width r)) ∧ Ext w w' := by
  have HV := hide (ref_valid r A n c w ha.at_ ha.len ha.small)
  have hl := ha.at_.len
  have a0 : w.cell? ⟨d, 0, none⟩ = some (.int .i64 S.width) := hb.cell 0
  clear hb ha
  unfold fitsR
  generalize S.width = wd at *
  subst hl
  go_enter Tryz.func97, Tryz.ntmps97
  by_cases hw : r.length = wd
  · subst hw
    go_wp2_with ((with_reducible refine HV.out.mono ?_); rintro e w1 ⟨rfl, h1⟩; have X1 := hide h1; clear h1)
    go_ret
    exact ⟨by simp, X1.out⟩
  · have hw2 : ¬ (r.length : Int) = (wd : Int) := by omega
    go_wp2_with fail
    go_ret
    exact ⟨by simp [hw], Ext.refl _⟩
theorem RB.grown {P Q : Nat → Prop} {w w' : World} {cs : List Value} {r : List V} (h : RB P w cs r) {base : Nat} {v2 : Value} {n2 : Nat} {xs2 : List Value} {e2 : TypeId} (h2 : w.ownsRow base e2 1 v2 n2 xs2) (hne : 43 ≠ e2) (hg : w.grownBy w' v2.ownBlock) (hq : ∀ b, P b → Q b) : RB Q w' cs r := by
  obtain ⟨A, n, c, e, ho⟩ := h
  exact ⟨A, n, c, e, (ho.grown h2 hne hg).mono hq⟩
/-- the rows at the mark stay, whatever is put behind the rows -/
theorem OldAt.push {w w' : World} {P Q : Nat → Prop} {AR A8 A : Option Addr} {nR cR n c8 : Nat} {rows : List (List V)} (h : OldAt w P AR nR A n rows) {xs : List Value} (own : OwnH w P 30 1 nR (.slice AR nR cR) xs) (G8 : w.grownBy w' (Value.slice AR nR cR).ownBlock)
    (K8 : ∀ (g j : Nat) (u : Value), (Value.slice AR nR cR).ownBlock = some g → j < nR * 1 → w.cell? ⟨g, j, none⟩ = some u → w'.cell? ⟨g, j, none⟩ = some u) (L8 : (Value.slice A8 (nR + 1) c8).ownBlock = (Value.slice AR nR cR).ownBlock ∨ (Value.slice A8 (nR + 1) c8).ownBlock = some w.heap.size) (hq : ∀ b, P b → Q b) : OldAt w' Q A8 (nR + 1) A n rows := by
  obtain ⟨h1, h2, cells, h3, h4, h5⟩ := h
  refine ⟨h1, fun a ha => hq _ (h2 a ha), cells, h3.mono fun cs r hr => hr.grown own.own (by decide) G8 hq, ⟨h4.1, fun hn => ?_⟩, fun a b hn ha hb e => ?_⟩
  · obtain ⟨b, off, e, hc⟩ := h4.2 hn
    refine ⟨b, off, e, fun j u hu => ?_⟩
    have hcu := hc j u hu
    by_cases hg : (Value.slice AR nR cR).ownBlock = some b
    · obtain ⟨ar, har⟩ : ∃ ar, AR = some ar := by
        cases AR with
        | none => simp [Value.ownBlock] at hg
        | some ar => exact ⟨ar, rfl⟩
      have hbb : ar.block = b := by rw [har] at hg; simpa [Value.ownBlock] using hg
      obtain ⟨h6, h7⟩ := h5 _ _ hn e har hbb.symm
      dsimp only at h6
      subst h6
      have hj := (List.getElem?_eq_some_iff.1 hu).1
      have hl := h4.1
      exact K8 b _ u hg (by omega) hcu
    · have hlt : b < w.heap.size := by
        rcases Nat.lt_or_ge b w.heap.size with h | h
        · exact h
        · have : w.cell? ⟨b, off + j, none⟩ = none := by
            unfold World.cell?
            rw [Array.getElem?_eq_none h]
          rw [this] at hcu; cases hcu
      have hb := G8.block b hlt (fun e => hg e.symm)
      show w'.cell? ⟨b, off + j, none⟩ = some u
      unfold World.cell? at hcu ⊢
      rw [hb]
      exact hcu
  · obtain ⟨b2, off, e2, hc⟩ := h4.2 hn
    rw [ha] at e2
    injection e2 with e2
    subst e2
    have hb8 : (Value.slice A8 (nR + 1) c8).ownBlock = some b.block := by rw [hb]; rfl
    rcases L8 with h6 | h6
    · rw [hb8] at h6
      obtain ⟨ar, har⟩ : ∃ ar, AR = some ar := by
        cases AR with
        | none => simp [Value.ownBlock] at h6
        | some ar => exact ⟨ar, rfl⟩
      have hbb : ar.block = b.block := by rw [har] at h6; simpa [Value.ownBlock] using h6.symm
      obtain ⟨h7, h8⟩ := h5 _ _ hn ha har (e.trans hbb.symm)
      exact ⟨h7, by omega⟩
    · rw [hb8] at h6
      injection h6 with h6
      have hlen := h4.1
      have hl : 0 < cells.length := by omega
      have hcu := hc 0 _ (List.getElem?_eq_getElem hl)
      have hnn : w.cell? ⟨b2, off + 0, none⟩ = none := by
        unfold World.cell?
        rw [Array.getElem?_eq_none (by show w.heap.size ≤ b2; dsimp only at e; omega)]
      rw [hnn] at hcu; cases hcu
theorem rows_cells {w : World} {P : Nat → Prop} {A : Option Addr} {n c : Nat} {rows : List (List V)} (h : Told w P A n c rows) : ∃ xs, OwnH w P 30 1 n (.slice A n c) xs ∧ Els (RB P) 1 w xs rows := by
  obtain ⟨h1, xs, h2, h3⟩ := h
  exact ⟨xs, h2, h3⟩
/-- one row more -/
theorem Told.push {w w' : World} {P Q : Nat → Prop} {A A8 : Option Addr} {n c c8 : Nat} {rows : List (List V)} {xs : List Value} (h1 : n = rows.length) (own : OwnH w P 30 1 n (.slice A n c) xs) (hx : Els (RB P) 1 w xs rows) {r : List V} {Ar : Option Addr} {cr : Nat} (hr : OwnH w P 43 3 r.length (.slice Ar r.length cr) (cellsR r))
    (o8 : OwnH w' (fun b => P b ∨ b = w.heap.size) 30 1 (n + 1) (.slice A8 (n + 1) c8) (xs ++ [.slice Ar r.length cr])) (G8 : w.grownBy w' (Value.slice A n c).ownBlock) (hq : ∀ b, P b ∨ (b = w.heap.size ∧ b < w'.heap.size) → Q b) : Told w' Q A8 (n + 1) c8 (rows ++ [r]) := by
  refine ⟨by rw [List.length_append, h1]; rfl, _, ⟨o8.own, fun g hg => hq g ((o8.inB g hg).imp id fun e => ⟨e, o8.lt g hg⟩)⟩, ?_⟩
  have h2 : Els (RB Q) 1 w' xs rows := hx.mono fun cs r hr => hr.grown own.own (by decide) G8 fun b hb => hq b (.inl hb)
  exact h2.append (Els.single rfl (fun v hv => by obtain rfl := List.mem_singleton.1 hv; rfl) ⟨Ar, r.length, cr, rfl, (hr.grown own.own (by decide) G8).mono fun b hb => hq b (.inl hb)⟩)
theorem GMade.grown {w w' : World} {P Q : Nat → Prop} {A : Option Addr} {k c : Nat} {gs : List (List Int)} (h : GMade w P A k c gs) {base : Nat} {v2 : Value} {n2 : Nat} {xs2 : List Value} (h2 : w.ownsRow base 30 1 v2 n2 xs2) (hg : w.grownBy w' v2.ownBlock) (hq : ∀ b, P b → Q b) : GMade w' Q A k c gs := by
  obtain ⟨h1, vs, h3, h4⟩ := h
  refine ⟨h1, vs, (h3.grown h2 (by decide) hg).mono hq, fun j g hj => ?_⟩
  obtain ⟨Ak, ck, e, o⟩ := h4 j g hj
  exact ⟨Ak, ck, e, (o.grown h2 (by decide) hg).mono hq⟩
theorem GMade.far {w : World} {P : Nat → Prop} {A : Option Addr} {k c : Nat} {gs : List (List Int)} (h : GMade w P A k c gs) {g : Nat} {cs : Array Value} (hb : Blk w g 113 cs) (j : Nat) (u : Value) : GMade (w.setCell ⟨g, j, none⟩ u) P A k c gs := by
  obtain ⟨h1, vs, h3, h4⟩ := h
  refine ⟨h1, vs, h3.far hb (by decide) j u, fun i q hi => ?_⟩
  obtain ⟨Ak, ck, e, o⟩ := h4 i q hi
  exact ⟨Ak, ck, e, o.far hb (by decide) j u⟩
theorem RB.far {w : World} {P : Nat → Prop} {cs : List Value} {r : List V} (h : RB P w cs r) {g : Nat} {bs : Array Value} (hb : Blk w g 113 bs) (j : Nat) (u : Value) : RB P (w.setCell ⟨g, j, none⟩ u) cs r := by
  obtain ⟨A, n, c, e, ho⟩ := h
  exact ⟨A, n, c, e, ho.far hb (by decide) j u⟩
theorem Told.far {w : World} {P : Nat → Prop} {A : Option Addr} {n c : Nat} {rows : List (List V)} (h : Told w P A n c rows) {g : Nat} {cs : Array Value} (hb : Blk w g 113 cs) (j : Nat) (u : Value) : Told (w.setCell ⟨g, j, none⟩ u) P A n c rows := by
  obtain ⟨h1, xs, h3, h4⟩ := h
  exact ⟨h1, xs, h3.far hb (by decide) j u, h4.mono fun cs r hr => RB.far hr hb j u⟩
/-- cells of rows in a block of rows are not the structure's -/
theorem OldAt.far {w : World} {P : Nat → Prop} {AR A : Option Addr} {nR n : Nat} {rows : List (List V)} (h : OldAt w P AR nR A n rows) {g : Nat} {cs : Array Value} (hb : Blk w g 113 cs) (hg : ∀ a, A = some a → a.block ≠ g) (j : Nat) (u : Value) : OldAt (w.setCell ⟨g, j, none⟩ u) P AR nR A n rows := by
  obtain ⟨h1, h2, cells, h3, h4, h5⟩ := h
  refine ⟨h1, h2, cells, h3.mono fun cs r hr => hr.far hb j u, ⟨h4.1, fun hn => ?_⟩, h5⟩
  obtain ⟨b, off, e, hc⟩ := h4.2 hn
  have hne : b ≠ g := hg _ e
  exact ⟨b, off, e, fun i x hx => (Chg.setCell (B := fun b => b = g) (Chg.refl _ w) (p := ⟨g, j, none⟩) (.inl rfl) u).cell (hc i x hx) hne⟩
set_option maxRecDepth 100000 in
set_option maxHeartbeats 1000000 in
theorem dput {w : World} {P : Nat → Prop} {d : Nat} {S : SAbs} (h : DP w P d S) (hs : SOk S) {r : List V} {A : Option Addr} {n : Nat} (c : Nat) (ha : ArgR w A n r) :
    Calls Tryz.prog 60 #[.pointer (some ⟨d, 0, none⟩), .slice A n c] w fun e w' => e = .returned (.tuple #[.bool (putS S r).2.1, .int .i64 (putS S r).2.2]) ∧ DP w' (And' P w.heap.size w'.heap.size) d (putS S r).1 ∧ Chg P w w' := by
  obtain ⟨AG, cG, AR, cR, Ao, no, co, hI⟩ := h
  have HF := hide (dfits hI.blk c ha)
  have HHas := hide (fun (w2 : World) (h2 : Ext w w2) => has_inB S.rows r AR A S.rows.length n cR c w2 (hI.ext h2 (Q := P) fun _ h => h).rows.lat (ha.ext h2).at_ (by have := hs.len; have := hs.most; omega) (fun s hs2 => by have := hs.small s hs2; omega))
  have HI := hide hI; have HS := hide hs; have HA := hide ha
  have HIX := hide (fun (w2 : World) (x2 : Ext w w2) => (⟨AG, cG, AR, cR, Ao, no, co, hI.ext x2 fun b hb => .inl hb⟩ : DP w2 (And' P w.heap.size w2.heap.size) d S))
  have hlen := hs.len; have hmost := hs.most
  clear hI hs ha
  go_enter Tryz.func60, Tryz.ntmps60
  cases hf : fitsR S.width r with
  | false =>
    rw [hf] at HF
    have HP := hide (show putS S r = (S, false, 62) by unfold putS; rw [hf]; rfl)
    clear hf
    go_wp2_with ((with_reducible refine HF.out.mono ?_); rintro e w2 ⟨rfl, h2⟩; have X2 := hide h2; clear h2)
    go_ret2
    rw [HP.out]
    exact ⟨rfl, HIX.out _ X2.out, Chg.of X2.out⟩
  | true =>
    rw [hf] at HF
    have HFT := hide hf
    clear hf
    go_upto_region 3 with ((with_reducible refine HF.out.mono ?_); rintro e w2 ⟨rfl, h2⟩; have X2 := hide h2; clear h2)
    have a3 : w2.cell? ⟨d, 3, none⟩ = some (.slice AR S.rows.length cR) := (HI.out.blk.ext X2.out).cell 3
    cases hi : inB S.rows r with
    | true =>
      rw [hi] at HHas
      have HP := hide (show putS S r = (S, false, 0) by unfold putS; rw [HFT.out, hi]; rfl)
      clear hi
      go_wp2_with ((with_reducible refine (HHas.out w2 X2.out).mono ?_); rintro e w3 ⟨rfl, h3⟩; have X3 := hide (X2.out.trans h3); clear h3)
      go_ret2
      rw [HP.out]
      exact ⟨rfl, HIX.out _ X3.out, Chg.of X3.out⟩
    | false =>
      rw [hi] at HHas
      have HIN := hide hi
      clear hi
      go_upto_region 5 with ((with_reducible refine (HHas.out w2 X2.out).mono ?_); rintro e w3 ⟨rfl, h3⟩; have X3 := hide (X2.out.trans h3); clear h3)
      clear a3
      have I3 := hide (HI.out.ext X3.out (Q := P) fun _ h => h)
      have a3 : w3.cell? ⟨d, 3, none⟩ = some (.slice AR S.rows.length cR) := I3.out.blk.cell 3
      have a1 : w3.cell? ⟨d, 1, none⟩ = some (.int .i64 S.most) := I3.out.blk.cell 1
      have a3 := cell_ext a3; have a1 := cell_ext a1
      obtain ⟨len, hle⟩ : ∃ len, S.rows.length = len := ⟨_, rfl⟩
      rw [hle] at a3 hlen
      have HLE := hide hle
      clear hle
      refine wp_region_ext 10 (by kernel_rfl) (by kernel_rfl) (by kernel_rfl) ?_
      iterate 10
        refine wpE_k (by kernel_rfl) (by kernel_rfl) ?_
        apply Exists.intro
        refine ⟨fun w1 hw1 => ?_, fun K hK => ?_⟩
        · go_simp; first | done | rfl
        go_simp; refine hK _ _ ?_; clear hK K
      refine wpE_nil ⟨rfl, by kernel_rfl, fun wq hwq => ?_⟩
      simp only [EndQ]
      refine wpList_nil ?_
      clear a3 a1
      have X4 := hide (X3.out.trans hwq)
      by_cases hroom : len < S.most
      · have hr2 : ¬ (S.most : Int) ≤ (len : Int) := by omega
        have HP := hide (show putS S r = ({ S with rows := S.rows ++ [r] }, true, 0) by unfold putS; rw [HFT.out, HIN.out, if_pos (show S.rows.length < S.most by have := HLE.out; omega)]; rfl)
        have I4 := hide (I3.out.ext hwq (Q := P) fun _ h => h)
        clear hwq
        have HCP := hide (fun (w1 : World) (h1 : Ext wq w1) => copy_any r A n c w1 (HA.out.ext (X4.out.trans h1)).at_ (by have := HA.out.len; omega))
        go_upto_region 7 with fail
        have a3 : wq.cell? ⟨d, 3, none⟩ = some (.slice AR len cR) := by rw [← HLE.out]; exact I4.out.blk.cell 3
        have a3 := cell_ext a3
        obtain ⟨i0, hi0, hz0, hz1, hz2⟩ := info_parts infoRw
        refine wp_region_extq 8 _ rfl (by kernel_rfl) (by kernel_rfl) (by kernel_rfl) (fun _ _ _ _ _ h => h) ?_
        refine ⟨_, _, ?_, rfl, ?_⟩; rotate_left
        refine ⟨⟨by kernel_rfl, fun w9 => ?_⟩, fun _ _ _ h => h, fun K hK => ?_⟩
        · go_simp; first | done | rfl
        go_simp; refine hK _ _ ?_; clear hK K
        iterate 5
          refine wpE_k (by kernel_rfl) (by kernel_rfl) ?_
          apply Exists.intro
          refine ⟨fun w1 hw1 => ?_, fun K hK => ?_⟩
          · go_simp; first | done | rfl
          go_simp; refine hK _ _ ?_; clear hK K
        refine wpE_p [] (fun u w1 => ∃ Ac cc, u = .slice Ac n cc ∧ w1.ownsRow wq.heap.size 43 3 (.slice Ac n cc) n (cellsR r)) (fun u w1 w2 _ h2 ⟨Ac, cc, h3, h4⟩ => ⟨Ac, cc, h3, mine_ext h4 h2⟩) rfl (by kernel_rfl) (fun w1 hw1 => ?_) ?_
        · clear a3
          simp only [LookQ]
          go_simp
          refine ⟨Ext.refl _, (HCP.out w1 hw1).mono fun e w' h => ?_⟩
          obtain ⟨Ac, cc, rfl, h2, h3⟩ := h
          exact ⟨_, rfl, h3, Ac, cc, rfl, own_base0 h2 hw1.size⟩
        refine wpE_p [32] (fun u w1 => ∃ gb Ac cc, u = .slice (some ⟨gb, 0, none⟩) 1 1 ∧ Blk w1 gb 30 #[.slice Ac n cc] ∧ w1.ownsRow wq.heap.size 43 3 (.slice Ac n cc) n (cellsR r)) (fun u w1 w2 _ h2 ⟨gb, Ac, cc, h3, h4, h5⟩ => ⟨gb, Ac, cc, h3, h4.ext h2, mine_ext h5 h2⟩) rfl (by kernel_rfl) (fun w1 hw1 => ?_) ?_
        · clear a3
          simp only [LookQ]
          intro u hu
          obtain ⟨Ac, cc, rfl, h2⟩ := hu _ rfl
          clear hu
          go_simp
          exact ⟨Ext.alloc _ _, Ac, cc, Blk.new _ _ _, mine_ext h2 (Ext.alloc _ _)⟩
        refine wpE_nil ⟨rfl, by kernel_rfl, fun w5 hw5 => ?_⟩
        simp only [EndQ]
        rintro _ ⟨gb, Ac, cc, rfl, hgb, hrow⟩ _ _
        simp only [List.drop, List.take, List.dropLast]
        clear a3
        have X5 := hide (X4.out.trans hw5)
        have I5 := hide (I4.out.ext hw5 (Q := And' P w.heap.size w5.heap.size) fun b hb => .inl hb)
        obtain rfl := HA.out.at_.len
        have HROW := hide (show OwnH w5 (And' P w.heap.size w5.heap.size) 43 3 r.length (.slice Ac r.length cc) (cellsR r) from ⟨own_base0 hrow (Nat.zero_le _), fun b hb => .inr ⟨by have h1 := (hrow.lt b hb).1; have h2 := X4.out.size; omega, (hrow.lt b hb).2⟩⟩)
        have HSl := hide (show Sl w5 (some ⟨gb, 0, none⟩) 1 1 [.slice Ac r.length cc] from hgb.sl rfl)
        have HONE := hide (show OneCells [Value.slice Ac r.length cc] from fun v hv => by simp at hv; rw [hv]; rfl)
        obtain ⟨xs, own, hx⟩ := rows_cells I5.out.rows
        rw [HLE.out] at own
        have HOWN := hide own; have HX := hide hx
        have HCL := hide (fun (A8 : Option Addr) (c8 : Nat) (w8 : World) (own8 : OwnH w8 (fun b => And' P w.heap.size w5.heap.size b ∨ b = w5.heap.size) 30 1 (len + 1) (.slice A8 (len + 1) c8) (xs ++ [.slice Ac r.length cc])) (G8 : w5.grownBy w8 (Value.slice AR len cR).ownBlock) (C8 : Chg (And' P w.heap.size w5.heap.size) w5 w8)
            (K8 : ∀ (g j : Nat) (u : Value), (Value.slice AR len cR).ownBlock = some g → j < len * 1 → w5.cell? ⟨g, j, none⟩ = some u → w8.cell? ⟨g, j, none⟩ = some u) (L8 : (Value.slice A8 (len + 1) c8).ownBlock = (Value.slice AR len cR).ownBlock ∨ (Value.slice A8 (len + 1) c8).ownBlock = some w5.heap.size) =>
          show DP (w8.setCell ⟨d, 3, none⟩ (.slice A8 (len + 1) c8)) (And' P w.heap.size (w8.setCell ⟨d, 3, none⟩ (.slice A8 (len + 1) c8)).heap.size) d { S with rows := S.rows ++ [r] } ∧ Chg P w (w8.setCell ⟨d, 3, none⟩ (.slice A8 (len + 1) c8)) from by
            have hl := HLE.out
            subst hl
            have hs5 := X5.out.size
            have hs8 := C8.size
            have hq : ∀ b, And' P w.heap.size w5.heap.size b ∨ (b = w5.heap.size ∧ b < w8.heap.size) → And' P w.heap.size w8.heap.size b := fun b hb => by
              rcases hb with (hb | hb) | hb
              · exact .inl hb
              · exact .inr ⟨hb.1, by omega⟩
              · exact .inr ⟨by omega, hb.2⟩
            have hb8 := I5.out.blk.grown G8 (own_ne_blk HOWN.out.own I5.out.blk (by decide))
            have hsz : (w8.setCell ⟨d, 3, none⟩ (.slice A8 (S.rows.length + 1) c8)).heap.size = w8.heap.size := by simp
            rw [hsz]
            refine ⟨⟨AG, cG, A8, c8, Ao, no, co, ?_, .inl HI.out.inP, (I5.out.grp.grown HOWN.out.own G8 fun b hb => hq b (.inl hb)).far hb8 3 _, ?_, fun o ho => ?_, HI.out.oldd⟩, ?_⟩
            · have h9 := hb8.set_ 3 (.slice A8 (S.rows.length + 1) c8)
              have e : dC { S with rows := S.rows ++ [r] } AG cG A8 c8 Ao no co = (dC S AG cG AR cR Ao no co).setIfInBounds 3 (.slice A8 (S.rows.length + 1) c8) := by
                unfold dC
                dsimp only
                rw [List.length_append, List.length_singleton]
                rfl
              rw [e]
              exact h9
            · have h9 := (Told.push (Q := And' P w.heap.size w8.heap.size) rfl HOWN.out HX.out HROW.out own8 G8 hq).far hb8 3 (.slice A8 (S.rows.length + 1) c8)
              rw [show ({ S with rows := S.rows ++ [r] } : SAbs).rows.length = S.rows.length + 1 by rw [List.length_append]; rfl]
              exact h9
            · rw [show ({ S with rows := S.rows ++ [r] } : SAbs).rows.length = S.rows.length + 1 by rw [List.length_append]; rfl]
              exact ((I5.out.old o ho).push HOWN.out G8 K8 L8 fun b hb => hq b (.inl hb)).far hb8 HI.out.oldd 3 _
            · exact ((Chg.of X5.out (B := P)).trans C8 fun g hg hl => hg.elim id fun h => by omega).setCell (p := ⟨d, 3, none⟩) (.inl HI.out.inP) _)
        clear hgb hrow hw5 own hx
        go_wp2_with (at_builtin; refine wpList_append_k rfl (.tmp 30) (.tmp 33) _ rfl (And' P w.heap.size w5.heap.size) 30 i0 _ 1 24 Tryz.underlying22 hi0 hz0 hz1 hz2 rfl (by omega) (.slice AR len cR) len xs rfl HOWN.out ⟨gb, 0, none⟩ 1 1 _ rfl HSl.out HONE.out (by omega) (by unfold maxLen; omega) (by omega) ?_; intro A8 c8 w8 own8 G8 C8 K8 L8)
        have hb8 := I5.out.blk.grown G8.out (own_ne_blk HOWN.out.own I5.out.blk (by decide))
        have f8 := hb8.frozen 3
        have v8 : w8.cell? ⟨d, 3, none⟩ = some (.slice AR S.rows.length cR) := hb8.cell 3
        clear hb8
        have HNI := hide (HCL.out A8 c8 w8 own8.out G8.out C8.out K8.out L8.out)
        clear HCL own8 G8 C8 K8 L8 I5 HSl HONE HROW HOWN HX
        simp only [exS]
        unfold wpS
        apply Exists.intro
        refine ⟨fun w9 => ?_, fun K hK => ?_⟩
        · go_simp; first | done | rfl
        go_simp; refine hK _ ?_; clear hK K
        unfold wpS
        apply Exists.intro
        refine ⟨fun w9 => ?_, fun K hK => ?_⟩
        · go_simp; first | done | rfl
        go_simp; refine hK _ ?_; clear hK K
        unfold wpS
        go_wp2_with fail
        go_wp2_with fail
        go_ret2
        rw [HP.out]
        exact ⟨rfl, HNI.out.1, HNI.out.2⟩
      · have hr2 : (S.most : Int) ≤ (len : Int) := by omega
        have HP := hide (show putS S r = (S, false, 31) by unfold putS; rw [HFT.out, HIN.out, if_neg (show ¬ S.rows.length < S.most by have := HLE.out; omega)]; rfl)
        clear hwq
        go_wp2_with fail
        go_ret2
        rw [HP.out]
        exact ⟨rfl, HIX.out _ X4.out, Chg.of X4.out⟩
end Go.Proofs.YtifloafhpeeepaaGreat

namespace Go.Proofs.YtifloafhpeeepaaGreat
open Go.RowKit

/-- what a call leaves of the document's store -/
def DS (w : World) (P : Nat → Prop) (w' : World) (d : Nat) (S : SAbs) : Prop := DP w' (And' P w.heap.size w'.heap.size) d S ∧ Chg P w w'
section
variable {w w' : World} {P Q : Nat → Prop} {d : Nat} {S : SAbs} {AG AR Ao : Option Addr} {cG cR no co : Nat}
theorem OldAt.moved {A A9 : Option Addr} {nR n9 n : Nat} {rows : List (List V)} (h : OldAt w P AR nR A n rows) (hw : Keeps P w w') (hq : ∀ b, P b → Q b) (hn : ∀ b, A9 = some b → w.heap.size ≤ b.block) : OldAt w' Q A9 n9 A n rows := by
  obtain ⟨h1, h2, cells, h3, h4, h5⟩ := h.keep hw hq
  obtain ⟨-, -, cells0, -, h40, -⟩ := h
  refine ⟨h1, h2, cells, h3, h4, fun a b hp ha hb e => ?_⟩
  obtain ⟨b2, off, e2, hc⟩ := h40.2 hp
  rw [ha] at e2
  injection e2 with e2
  subst e2
  have h6 := hn b hb
  have hl : 0 < cells0.length := by have := h40.1; omega
  have hcu := hc 0 _ (List.getElem?_eq_getElem hl)
  have hnn : w.cell? ⟨b2, off + 0, none⟩ = none := by
    unfold World.cell?
    rw [Array.getElem?_eq_none (by show w.heap.size ≤ b2; dsimp only at e; omega)]
  rw [hnn] at hcu; cases hcu
/-- the mark's cells are written -/
theorem DPI.marked (h : DPI w P d S AG cG AR cR Ao no co) (b : Bool) (A : Option Addr) (n c : Nat) : Blk ((w.setCell ⟨d, 4, none⟩ (.bool b)).setCell ⟨d, 5, none⟩ (.slice A n c)) d 113 #[.int .i64 S.width, .int .i64 S.most, .slice AG S.gs.length cG, .slice AR S.rows.length cR, .bool b, .slice A n c] ∧
    GMade ((w.setCell ⟨d, 4, none⟩ (.bool b)).setCell ⟨d, 5, none⟩ (.slice A n c)) P AG S.gs.length cG (intsS S) ∧ Told ((w.setCell ⟨d, 4, none⟩ (.bool b)).setCell ⟨d, 5, none⟩ (.slice A n c)) P AR S.rows.length cR S.rows ∧ Chg P w ((w.setCell ⟨d, 4, none⟩ (.bool b)).setCell ⟨d, 5, none⟩ (.slice A n c)) := by
  have h4 := h.blk.set_ 4 (.bool b)
  have h5 := h4.set_ 5 (.slice A n c)
  exact ⟨h5, (h.grp.far h.blk 4 _).far h4 5 _, (h.rows.far h.blk 4 _).far h4 5 _, ((Chg.refl P w).setCell (p := ⟨d, 4, none⟩) (.inl h.inP) _).setCell (p := ⟨d, 5, none⟩) (.inl h.inP) _⟩
end
theorem DP.more {w : World} {P Q : Nat → Prop} {d : Nat} {S : SAbs} (h : DP w P d S) (hq : ∀ b, P b → Q b) : DP w Q d S := h.ext (Ext.refl w) hq
theorem DP.ds {w w' : World} {P : Nat → Prop} {d : Nat} {S : SAbs} (h : DP w' P d S) (hc : Chg P w w') : DS w P w' d S := ⟨h.more fun b hb => .inl hb, hc⟩
set_option maxRecDepth 100000 in
theorem dbegin {w : World} {P : Nat → Prop} {d : Nat} {S : SAbs} (h : DP w P d S) :
    Calls Tryz.prog 62 #[.pointer (some ⟨d, 0, none⟩)] w fun e w' => e = .returned (.int .i64 (beginS S).2) ∧ DS w P w' d (beginS S).1 := by
  obtain ⟨AG, cG, AR, cR, Ao, no, co, hI⟩ := h
  have a4 : w.cell? ⟨d, 4, none⟩ = some (.bool S.old.isSome) := hI.blk.cell 4
  have f4 : w.frozen? ⟨d, 4, none⟩ = false := hI.blk.frozen 4
  have a3 : w.cell? ⟨d, 3, none⟩ = some (.slice AR S.rows.length cR) := hI.blk.cell 3
  cases ho : S.old with
  | some o =>
    have HB := hide (show beginS S = (S, 64) by unfold beginS; rw [ho])
    rw [ho] at a4
    have HS := hide (DP.ds (w := w) (⟨AG, cG, AR, cR, Ao, no, co, hI⟩ : DP w P d S) (Chg.refl _ _))
    clear hI ho f4 a3
    rw [show (some o).isSome = true from rfl] at a4
    go_enter Tryz.func62, Tryz.ntmps62
    go_wp2_with fail
    go_ret
    rw [HB.out]
    exact ⟨rfl, HS.out⟩
  | none =>
    have HB := hide (show beginS S = ({ S with old := some S.rows }, 0) by unfold beginS; rw [ho])
    rw [ho] at a4
    obtain ⟨h1, h2, h3, h4⟩ := hI.marked true AR S.rows.length cR
    have b5 := hI.blk.set_ 4 (.bool true)
    have v5 : (w.setCell ⟨d, 4, none⟩ (.bool true)).cell? ⟨d, 5, none⟩ = some (.slice Ao no co) := b5.cell 5
    have f5 : (w.setCell ⟨d, 4, none⟩ (.bool true)).frozen? ⟨d, 5, none⟩ = false := b5.frozen 5
    have HS := hide (show DS w P ((w.setCell ⟨d, 4, none⟩ (.bool true)).setCell ⟨d, 5, none⟩ (.slice AR S.rows.length cR)) d { S with old := some S.rows } from by
      have hne : ∀ a, AR = some a → a.block ≠ d := fun a ha => by
        obtain ⟨xs, own, -⟩ := rows_cells hI.rows
        intro e
        exact own_ne_blk own.own hI.blk (by decide) (by rw [ha, ← e]; rfl)
      have h0 : ∀ a, AR = some a → a.off = 0 := fun a ha => by
        obtain ⟨xs, own, -⟩ := rows_cells hI.rows
        rcases own.own.2 with ⟨k1, -⟩ | ⟨g, cap, cur, k1, -⟩
        · injection k1 with k1; rw [ha] at k1; cases k1
        · injection k1 with k1; rw [ha] at k1; injection k1 with k1; rw [k1]
      refine DP.ds (w := w) ⟨AG, cG, AR, cR, AR, S.rows.length, cR, h1, hI.inP, h2, h3, fun o hoo => ?_, hne⟩ h4
      obtain rfl : S.rows = o := Option.some.inj hoo
      obtain ⟨xs, own, hx⟩ := rows_cells h3
      exact ⟨rfl, fun a ha => own.inB a.block (by rw [ha]; rfl), xs, hx, Sl.own own.own, fun a _ _ ha _ _ => ⟨h0 a ha, Nat.le_refl _⟩⟩)
    clear h1 h2 h3 h4 hI ho b5
    rw [show (none : Option (List (List V))).isSome = false from rfl] at a4
    go_enter Tryz.func62, Tryz.ntmps62
    go_wp2_with fail
    go_ret
    rw [HB.out]
    exact ⟨rfl, HS.out⟩
set_option maxRecDepth 100000 in
theorem dcommit {w : World} {P : Nat → Prop} {d : Nat} {S : SAbs} (h : DP w P d S) :
    Calls Tryz.prog 63 #[.pointer (some ⟨d, 0, none⟩)] w fun e w' => e = .returned (.int .i64 (commitS S).2) ∧ DS w P w' d (commitS S).1 := by
  obtain ⟨AG, cG, AR, cR, Ao, no, co, hI⟩ := h
  have a4 : w.cell? ⟨d, 4, none⟩ = some (.bool S.old.isSome) := hI.blk.cell 4
  have f4 : w.frozen? ⟨d, 4, none⟩ = false := hI.blk.frozen 4
  cases ho : S.old with
  | none =>
    have HB := hide (show commitS S = (S, 65) by unfold commitS; rw [ho])
    rw [ho] at a4
    have HS := hide (DP.ds (w := w) (⟨AG, cG, AR, cR, Ao, no, co, hI⟩ : DP w P d S) (Chg.refl _ _))
    clear hI ho f4
    rw [show (none : Option (List (List V))).isSome = false from rfl] at a4
    go_enter Tryz.func63, Tryz.ntmps63
    go_wp2_with fail
    go_ret
    rw [HB.out]
    exact ⟨rfl, HS.out⟩
  | some o =>
    have HB := hide (show commitS S = ({ S with old := none }, 0) by unfold commitS; rw [ho])
    rw [ho] at a4
    obtain ⟨h1, h2, h3, h4⟩ := hI.marked false none 0 0
    have b5 := hI.blk.set_ 4 (.bool false)
    have v5 : (w.setCell ⟨d, 4, none⟩ (.bool false)).cell? ⟨d, 5, none⟩ = some (.slice Ao no co) := b5.cell 5
    have f5 : (w.setCell ⟨d, 4, none⟩ (.bool false)).frozen? ⟨d, 5, none⟩ = false := b5.frozen 5
    have HS := hide (show DS w P ((w.setCell ⟨d, 4, none⟩ (.bool false)).setCell ⟨d, 5, none⟩ (.slice none 0 0)) d { S with old := none } from
      DP.ds (w := w) ⟨AG, cG, AR, cR, none, 0, 0, h1, hI.inP, h2, h3, fun o hoo => (by cases hoo), fun a ha => by cases ha⟩ h4)
    clear h1 h2 h3 h4 hI ho b5
    rw [show (some o).isSome = true from rfl] at a4
    go_enter Tryz.func63, Tryz.ntmps63
    go_wp2_with fail
    go_ret
    rw [HB.out]
    exact ⟨rfl, HS.out⟩
/-- rows that were put together anew -/
theorem Told.anew {w w' : World} {P Q B8 : Nat → Prop} {A8 : Option Addr} {n c8 : Nat} {cells : List Value} {rows : List (List V)} (hn : n = rows.length) (o8 : OwnH w' B8 30 1 n (.slice A8 n c8) cells) (hx : Els (RB P) 1 w cells rows) (hw : Keeps P w w') (hq : ∀ b, P b → Q b) (h8 : ∀ b, B8 b → b < w'.heap.size → Q b) : Told w' Q A8 n c8 rows :=
  ⟨hn, cells, ⟨o8.own, fun g hg => h8 g (o8.inB g hg) (o8.lt g hg)⟩, hx.mono fun _ _ hr => RB.keep hr hw hq⟩
end Go.Proofs.YtifloafhpeeepaaGreat

namespace Go.Proofs.YtifloafhpeeepaaGreat
open Go.RowKit

theorem DS.on {w w1 w2 : World} {P : Nat → Prop} {d : Nat} {S : SAbs} (hc : Chg P w w1) (h : DS w1 (And' P w.heap.size w1.heap.size) w2 d S) : DS w P w2 d S := by
  have h1 := hc.size
  have h2 := h.2.size
  refine ⟨h.1.more fun b hb => ?_, hc.trans h.2 fun g hg hl => hg.elim id fun h => by omega⟩
  rcases hb with (hb | hb) | hb
  · exact .inl hb
  · exact .inr ⟨hb.1, by omega⟩
  · exact .inr ⟨by omega, hb.2⟩
set_option maxRecDepth 100000 in
set_option maxHeartbeats 1000000 in
theorem droll {w : World} {P : Nat → Prop} {d : Nat} {S : SAbs} (h : DP w P d S) (hso : ∀ o, S.old = some o → o.length ≤ 65536) :
    Calls Tryz.prog 64 #[.pointer (some ⟨d, 0, none⟩)] w fun e w' => e = .returned (.int .i64 (rollS S).2) ∧ DS w P w' d (rollS S).1 := by
  obtain ⟨AG, cG, AR, cR, Ao, no, co, hI⟩ := h
  have a4 : w.cell? ⟨d, 4, none⟩ = some (.bool S.old.isSome) := hI.blk.cell 4
  cases ho : S.old with
  | none =>
    have HB := hide (show rollS S = (S, 65) by unfold rollS; rw [ho])
    rw [ho] at a4
    have HS := hide (DP.ds (w := w) (⟨AG, cG, AR, cR, Ao, no, co, hI⟩ : DP w P d S) (Chg.refl _ _))
    clear hI ho
    rw [show (none : Option (List (List V))).isSome = false from rfl] at a4
    go_enter Tryz.func64, Tryz.ntmps64
    go_wp2_with fail
    go_ret
    rw [HB.out]
    exact ⟨rfl, HS.out⟩
  | some o =>
    have HB := hide (show rollS S = ({ S with rows := o, old := none }, 0) by unfold rollS; rw [ho])
    have hol := hso o ho
    obtain ⟨hno, hoP, cells, hcx, hcsl, -⟩ := hI.old o ho
    rw [ho] at a4
    have E1 := hide (Ext.alloc w (.cells #[] 30))
    have a5 : (w.alloc (.cells #[] 30)).cell? ⟨d, 5, none⟩ = some (.slice Ao no co) := (hI.blk.ext E1.out).cell 5
    have G0 := hide (Blk.new w 30 #[])
    have HI := hide hI; have HO := hide ho; have HCX := hide hcx; have HCS := hide hcsl; have HNO := hide hno
    clear hI ho hcx hcsl hoP hno
    rw [show (some o).isSome = true from rfl] at a4
    obtain ⟨i0, hi0, hz0, hz1, hz2⟩ := info_parts infoRw
    go_enter Tryz.func64, Tryz.ntmps64
    have HOWN := hide (show OwnH (w.alloc (.cells #[] 30)) (fun b => b = w.heap.size) 30 1 0 (.slice (some ⟨w.heap.size, 0, none⟩) 0 0) [] from ⟨⟨rfl, .inr ⟨w.heap.size, 0, #[], rfl, Nat.zero_le _, G0.out, Nat.le_refl _, by unfold maxLen; omega, rfl, rfl⟩⟩, fun g hg => by simpa [Value.ownBlock] using hg.symm⟩)
    have HONE := hide HCX.out.one
    have HSl := hide (HCS.out.ext E1.out)
    have HNE := hide (show d ≠ w.heap.size from by have := HI.out.blk.lt; omega)
    have HCM := hide (fun (A8 : Option Addr) (c8 : Nat) (w8 : World) (own8 : OwnH w8 (fun b => b = w.heap.size ∨ b = (w.alloc (.cells #[] 30)).heap.size) 30 1 (0 + no) (.slice A8 (0 + no) c8) ([] ++ cells)) (C8 : Chg (fun b => b = w.heap.size) (w.alloc (.cells #[] 30)) w8) =>
      show Calls Tryz.prog 63 #[.pointer (some ⟨d, 0, none⟩)] (w8.setCell ⟨d, 3, none⟩ (.slice A8 no c8)) (fun e w' => e = .returned (.int .i64 0) ∧ DS w P w' d { S with rows := o, old := none }) from by
        rw [Nat.zero_add, List.nil_append] at own8
        have hC : Chg (fun _ => False) w w8 := (Chg.of (B := fun _ => False) E1.out).trans C8 fun g hg hl => by omega
        have hE : Ext w w8 := hC.ext (Ext.refl w) fun b hb => hb.elim
        have I8 := HI.out.ext hE (Q := And' P w.heap.size w8.heap.size) fun b hb => .inl hb
        have hb8 := I8.blk
        have hsz : (w8.setCell ⟨d, 3, none⟩ (.slice A8 no c8)).heap.size = w8.heap.size := by simp
        have hC9 : Chg P w (w8.setCell ⟨d, 3, none⟩ (.slice A8 no c8)) := (Chg.of hE).setCell (p := ⟨d, 3, none⟩) (.inl HI.out.inP) _
        have hal : (w.alloc (.cells #[] 30)).heap.size = w.heap.size + 1 := World.size_alloc _ _
        have hTold : Told w8 (And' P w.heap.size w8.heap.size) A8 no c8 o := Told.anew HNO.out own8 HCX.out (Chg.of hE) (fun b hb => .inl hb) fun b hb hl => .inr ⟨by rcases hb with h | h <;> omega, hl⟩
        have hnew : ∀ b, A8 = some b → w.heap.size ≤ b.block := fun b hb => by
          have h1 := own8.inB b.block (by rw [hb]; rfl)
          rcases h1 with h1 | h1 <;> omega
        have hDP : DP (w8.setCell ⟨d, 3, none⟩ (.slice A8 no c8)) (And' P w.heap.size (w8.setCell ⟨d, 3, none⟩ (.slice A8 no c8)).heap.size) d { S with rows := o } := by
          rw [hsz]
          refine ⟨AG, cG, A8, c8, Ao, no, co, ?_, .inl HI.out.inP, I8.grp.far hb8 3 _, ?_, fun o' ho' => ?_, HI.out.oldd⟩
          · have h9 := hb8.set_ 3 (.slice A8 no c8)
            have e : dC { S with rows := o } AG cG A8 c8 Ao no co = (dC S AG cG AR cR Ao no co).setIfInBounds 3 (.slice A8 no c8) := by
              unfold dC
              dsimp only
              rw [← HNO.out]
              rfl
            rw [e]
            exact h9
          · show Told _ _ A8 o.length c8 o
            rw [← HNO.out]
            exact hTold.far hb8 3 _
          · show OldAt _ _ A8 o.length Ao no o'
            exact ((HI.out.old o' ho').moved (Chg.of hE) (fun b hb => .inl hb) hnew).far hb8 HI.out.oldd 3 _
        have hcom : commitS { S with rows := o } = ({ S with rows := o, old := none }, 0) := by
          unfold commitS
          dsimp only
          rw [HO.out]
        have hd := dcommit hDP
        rw [hcom] at hd
        refine hd.mono ?_
        rintro e w' ⟨rfl, hds⟩
        exact ⟨rfl, DS.on hC9 hds⟩)
    go_wp2_with (at_builtin; refine wpList_append_b rfl (.tmp 9) (.tmp 13) _ rfl (fun b => b = w.heap.size) 30 i0 _ 1 24 Tryz.underlying22 hi0 hz0 hz1 hz2 rfl (by omega) (.slice (some ⟨w.heap.size, 0, none⟩) 0 0) 0 [] rfl HOWN.out Ao no co cells rfl HSl.out HONE.out (by have := HNO.out; unfold maxLen; omega) (by have := HNO.out; omega) ?_; intro A8 c8 w8 own8 G8 C8; have hcm := hide (HCM.out A8 c8 w8 own8.out C8.out); have f3 := (C8.out.blk (HI.out.blk.ext E1.out) HNE.out).frozen 3; have v3 : w8.cell? ⟨d, 3, none⟩ = some (.slice AR S.rows.length cR) := (C8.out.blk (HI.out.blk.ext E1.out) HNE.out).cell 3)
    refine hcm.out.mono ?_
    rintro e w9 ⟨rfl, hds⟩
    have HDS := hide hds
    clear hds
    go_wp2_with fail
    go_ret
    rw [HB.out]
    exact ⟨rfl, HDS.out⟩
end Go.Proofs.YtifloafhpeeepaaGreat

namespace Go.Proofs.YtifloafhpeeepaaGreat
open Go.RowKit

theorem plcR_del (r : List V) : ∀ (rows : List (List V)) (k : Nat), 0 ≤ plcR r rows k → ∃ i, plcR r rows k = ((k + i : Nat) : Int) ∧ i < rows.length ∧ delR r rows = rows.take i ++ rows.drop (i + 1)
  | [], k, h => by simp [plcR] at h
  | s :: l, k, h => by
    unfold plcR at h ⊢
    by_cases hs : sameR s r = true
    · rw [if_pos hs]
      exact ⟨0, by simp, by simp, by unfold delR; rw [if_pos hs]; simp⟩
    · rw [if_neg hs] at h ⊢
      obtain ⟨i, h1, h2, h3⟩ := plcR_del r l (k + 1) h
      refine ⟨i + 1, by rw [h1]; congr 1; omega, by simp only [List.length_cons]; omega, ?_⟩
      unfold delR
      rw [if_neg hs, h3]
      simp
theorem LAt.rb {w : World} {P : Nat → Prop} {A : Option Addr} {n c : Nat} {rows : List (List V)} (h : Told w P A n c rows) : LAt (RB P) 1 w A n rows := by
  obtain ⟨h1, xs, h2, h3⟩ := h
  exact ⟨h1, xs, h3, Sl.own h2.own⟩
set_option maxRecDepth 100000 in
set_option maxHeartbeats 1000000 in
theorem ddrop {w : World} {P : Nat → Prop} {d : Nat} {S : SAbs} (h : DP w P d S) (hs : SOk S) {r : List V} {A : Option Addr} {n : Nat} (c : Nat) (ha : ArgR w A n r) :
    Calls Tryz.prog 61 #[.pointer (some ⟨d, 0, none⟩), .slice A n c] w fun e w' => e = .returned (.tuple #[.bool (dropS S r).2.1, .int .i64 (dropS S r).2.2]) ∧ DS w P w' d (dropS S r).1 := by
  obtain ⟨AG, cG, AR, cR, Ao, no, co, hI⟩ := h
  have HF := hide (dfits hI.blk c ha)
  have HPl := hide (fun (w2 : World) (h2 : Ext w w2) => place_rows S.rows r AR A S.rows.length n cR c w2 (hI.ext h2 (Q := P) fun _ h => h).rows.lat (ha.ext h2).at_ (by have := hs.len; have := hs.most; omega) (fun s hs2 => by have := hs.small s hs2; omega))
  have HI := hide hI; have HS := hide hs; have HA := hide ha
  have HIX := hide (fun (w2 : World) (x2 : Ext w w2) => (⟨⟨AG, cG, AR, cR, Ao, no, co, hI.ext x2 fun b hb => .inl hb⟩, Chg.of x2⟩ : DS w P w2 d S))
  have hlen := hs.len; have hmost := hs.most
  have hpi := plcR_iff r S.rows 0
  have hpd := plcR_del r S.rows 0
  clear hI hs ha
  go_enter Tryz.func61, Tryz.ntmps61
  cases hf : fitsR S.width r with
  | false =>
    rw [hf] at HF
    have HP := hide (show dropS S r = (S, false, 62) by unfold dropS; rw [hf]; rfl)
    clear hf hpi hpd
    go_wp2_with ((with_reducible refine HF.out.mono ?_); rintro e w2 ⟨rfl, h2⟩; have X2 := hide h2; clear h2)
    go_ret2
    rw [HP.out]
    exact ⟨rfl, HIX.out _ X2.out⟩
  | true =>
    rw [hf] at HF
    have HFT := hide hf
    clear hf
    by_cases hp0 : 0 ≤ plcR r S.rows 0
    · obtain ⟨i, hpi2, hil, hdel⟩ := hpd hp0
      rw [Nat.zero_add] at hpi2
      have HIN := hide (show inB S.rows r = true from inB_iff.2 (hpi.1 hp0))
      rw [hpi2] at HPl
      have HP := hide (show dropS S r = ({ S with rows := delR r S.rows }, true, 0) by unfold dropS; rw [HFT.out, HIN.out]; rfl)
      have HDEL := hide hdel
      clear hpi hpd hp0 hpi2 hdel
      go_upto_region 3 with ((with_reducible refine HF.out.mono ?_); rintro e w2 ⟨rfl, h2⟩; have X2 := hide h2; clear h2)
      have I2 := hide (HI.out.ext X2.out (Q := P) fun _ h => h)
      have a3 : w2.cell? ⟨d, 3, none⟩ = some (.slice AR S.rows.length cR) := I2.out.blk.cell 3
      obtain ⟨len, hle⟩ : ∃ len, S.rows.length = len := ⟨_, rfl⟩
      rw [hle] at a3 hlen hil HPl
      have HLE := hide hle
      clear hle
      have hi0 : ¬ (i : Int) < 0 := by omega
      go_upto_region 6 with ((with_reducible refine (HPl.out w2 X2.out).mono ?_); rintro e w3 ⟨rfl, h3⟩; have X3 := hide (X2.out.trans h3); clear h3)
      have I3 := hide (HI.out.ext X3.out (Q := P) fun _ h => h)
      obtain ⟨xs, own, hx⟩ := rows_cells I3.out.rows
      rw [HLE.out] at own
      obtain ⟨g, rfl, -, hglt, hgc, hgf⟩ := own.at_ (by omega)
      obtain ⟨hcap, hcap2⟩ := own.cap
      have HOW := hide own; have HX := hide hx
      clear a3 own hx hgc hgf
      have a3 : w3.cell? ⟨d, 3, none⟩ = some (.slice (some ⟨g, 0, none⟩) len cR) := by rw [← HLE.out]; exact I3.out.blk.cell 3
      obtain ⟨i0, hi0', hz0, hz1, hz2⟩ := info_parts infoRw
      have hmk := run_make (P := Tryz.prog) (w := w3) 22 30 i0 _ Tryz.underlying22 hi0' hz0 .i64 .i64 0 (len : Int) (by omega) (by omega) (by rw [hz2]; omega) (by omega)
      simp only [hz1, Int.toNat_natCast, Int.toNat_zero, Nat.mul_one, Value.cells] at hmk
      have HM0 := hide (show (w3.alloc (.cells (madeCells #[Value.slice none 0 0] len) 30)).ownsRow 0 30 1 (.slice (some ⟨w3.heap.size, 0, none⟩) 0 len) 0 [] from World.ownsRow_made w3 _ _ (Nat.zero_le _) (by unfold maxLen; omega) (by rw [size_madeCells, Nat.mul_one]))
      have HE0 := hide (Ext.alloc w3 (.cells (madeCells #[Value.slice none 0 0] len) 30))
      have HSZ := hide (World.size_alloc w3 (.cells (madeCells #[Value.slice none 0 0] len) 30))
      have a3 := cell_ext a3
      have a3 := a3 _ HE0.out
      go_upto_region 7 with fail
      clear hmk
      generalize w3.alloc (.cells (madeCells #[Value.slice none 0 0] len) 30) = w4 at *
      obtain ⟨gb, hgb⟩ : ∃ gb, w3.heap.size = gb := ⟨_, rfl⟩
      rw [hgb] at HM0 HSZ ⊢
      have HGB := hide hgb
      clear hgb
      have I4 := hide (I3.out.ext HE0.out (Q := P) fun _ h => h)
      have hl3 : LAt (RB P) 1 w3 (some ⟨g, 0, none⟩) len S.rows := by rw [← HLE.out]; exact LAt.rb I3.out.rows
      obtain ⟨hlt, cells1, hx1, hs1⟩ := hl3.take i (by omega)
      obtain ⟨hlt2, cells2, hx2, hs2⟩ := hl3.drop (i + 1) (by omega)
      rw [Nat.mul_one, Nat.zero_add] at hs2
      have HX1 := hide hx1; have HS1 := hide (hs1.ext HE0.out); have HONE1 := hide hx1.one; have HX2 := hide hx2; have HS2 := hide hs2; have HONE2 := hide hx2.one
      have HLT := hide (And.intro hlt hlt2)
      have HOWN0 := hide (show OwnH w4 (fun b => b = gb) 30 1 0 (.slice (some ⟨gb, 0, none⟩) 0 len) [] from ⟨HM0.out, fun b hb => by simpa [Value.ownBlock] using hb.symm⟩)
      clear hl3 hx1 hs1 hlt hx2 hs2 hlt2
      go_upto_region 8 with (at_builtin; refine wpList_append_b rfl (.tmp 26) (.tmp 32) _ rfl (fun b => b = gb) 30 i0 _ 1 24 Tryz.underlying22 hi0' hz0 hz1 hz2 rfl (by omega) (.slice (some ⟨gb, 0, none⟩) 0 len) 0 [] rfl HOWN0.out (some ⟨g, 0, none⟩) i cR cells1 rfl HS1.out HONE1.out (by unfold maxLen; omega) (by omega) ?_; intro A8 c8 w5 own8 G8 C8)
      have hown8 := own8.out
      rw [Nat.zero_add, List.nil_append] at hown8
      have hgb3 := HGB.out
      have X5 := hide (show Ext w3 w5 from C8.out.ext HE0.out fun b hb => by omega)
      have HO8 := hide (show OwnH w5 (fun b => b = gb ∨ b = w4.heap.size) 30 1 i (.slice A8 i c8) cells1 from hown8)
      have I5 := hide (I3.out.ext X5.out (Q := P) fun _ h => h)
      have a3 : w5.cell? ⟨d, 3, none⟩ = some (.slice (some ⟨g, 0, none⟩) len cR) := by rw [← HLE.out]; exact I5.out.blk.cell 3
      have HS25 := hide (HS2.out.ext X5.out)
      have HSZ4 := hide (show w.heap.size ≤ gb from by have := X3.out.size; omega)
      have HCL := hide (fun (A9 : Option Addr) (c9 : Nat) (w6 : World) (m2 : Nat) (cs2 : List Value) (hdl : i + m2 = (delR r S.rows).length) (hx2 : Els (RB P) 1 w3 cs2 (S.rows.drop (i + 1))) (own9 : OwnH w6 (fun b => (b = gb ∨ b = w4.heap.size) ∨ b = w5.heap.size) 30 1 (i + m2) (.slice A9 (i + m2) c9) (cells1 ++ cs2)) (C9 : Chg (fun b => b = gb ∨ b = w4.heap.size) w5 w6) =>
        show DS w P (w6.setCell ⟨d, 3, none⟩ (.slice A9 (i + m2) c9)) d { S with rows := delR r S.rows } from by
          have hs4 := HSZ.out
          have hE : Ext w3 w6 := C9.ext X5.out fun b hb => by omega
          have hEw := X3.out.trans hE
          have hle5 := X5.out.size
          have I6 := HI.out.ext hEw (Q := And' P w.heap.size w6.heap.size) fun b hb => .inl hb
          have hb6 := I6.blk
          have hTold : Told w6 (And' P w.heap.size w6.heap.size) A9 (i + m2) c9 (delR r S.rows) := Told.anew hdl own9 (by rw [HDEL.out]; exact HX1.out.append hx2) (Chg.of hE) (fun b hb => .inl hb) fun b hb hl => .inr ⟨by have := HSZ4.out; omega, hl⟩
          have hnew : ∀ b, A9 = some b → w.heap.size ≤ b.block := fun b hb => by
            have h1 := own9.inB b.block (by rw [hb]; rfl)
            have := HSZ4.out
            omega
          have hsz : (w6.setCell ⟨d, 3, none⟩ (.slice A9 (i + m2) c9)).heap.size = w6.heap.size := by simp
          refine ⟨?_, (Chg.of hEw).setCell (p := ⟨d, 3, none⟩) (.inl HI.out.inP) _⟩
          rw [hsz]
          refine ⟨AG, cG, A9, c9, Ao, no, co, ?_, .inl HI.out.inP, I6.grp.far hb6 3 _, ?_, fun o' ho' => ?_, HI.out.oldd⟩
          · have h9 := hb6.set_ 3 (.slice A9 (i + m2) c9)
            have e : dC { S with rows := delR r S.rows } AG cG A9 c9 Ao no co = (dC S AG cG (some ⟨g, 0, none⟩) cR Ao no co).setIfInBounds 3 (.slice A9 (i + m2) c9) := by
              unfold dC
              dsimp only
              rw [← hdl]
              rfl
            rw [e]
            exact h9
          · show Told _ _ A9 (delR r S.rows).length c9 (delR r S.rows)
            rw [← hdl]
            exact hTold.far hb6 3 _
          · show OldAt _ _ A9 (delR r S.rows).length Ao no o'
            exact ((HI.out.old o' ho').moved (Chg.of hEw) (fun b hb => .inl hb) hnew).far hb6 HI.out.oldd 3 _)
      have HNE := hide (show ¬ (d = gb ∨ d = w4.heap.size) from fun h => by have h1 := HI.out.blk.lt; have h2 := HSZ4.out; have h3 := HSZ.out; omega)
      clear own8 hown8 G8 C8
      have HDL := hide (show i + (len - (i + 1)) = (delR r S.rows).length by rw [HDEL.out, List.length_append, ← HLT.out.1, ← HLT.out.2])
      rcases Nat.lt_or_ge (i + 1) cR with hc1 | hc1
      · go_wp2_with (at_builtin; refine wpList_append_b rfl (.tmp 35) (.tmp 42) _ rfl (fun b => b = gb ∨ b = w4.heap.size) 30 i0 _ 1 24 Tryz.underlying22 hi0' hz0 hz1 hz2 rfl (by omega) (.slice A8 i c8) i cells1 rfl HO8.out (some ⟨g, i + 1, none⟩) (len - (i + 1)) (cR - (i + 1)) cells2 rfl HS25.out HONE2.out (by unfold maxLen; omega) (by omega) ?_; intro A9 c9 w6 own9 G9 C9; have HFI := hide (HCL.out A9 c9 w6 _ _ HDL.out HX2.out own9.out C9.out); have f3 := (C9.out.blk I5.out.blk HNE.out).frozen 3; have v3 : w6.cell? ⟨d, 3, none⟩ = some (.slice (some ⟨g, 0, none⟩) S.rows.length cR) := (C9.out.blk I5.out.blk HNE.out).cell 3; clear own9 G9 C9)
        go_ret2
        rw [HP.out]
        exact ⟨rfl, HFI.out⟩
      · obtain rfl : cR = i + 1 := by omega
        obtain rfl : len = i + 1 := by omega
        have hc20 : cells2 = [] := List.eq_nil_of_length_eq_zero (by have := HS2.out.1; omega)
        subst hc20
        have hdl0 : i + 0 = (delR r S.rows).length := by have := HDL.out; omega
        have HDL0 := hide hdl0
        have HN0 := hide (Sl.nil w5 (some ⟨g, 0, none⟩) 1)
        clear hdl0
        go_wp2_with (at_builtin; refine wpList_append_b rfl (.tmp 35) (.tmp 42) _ rfl (fun b => b = gb ∨ b = w4.heap.size) 30 i0 _ 1 24 Tryz.underlying22 hi0' hz0 hz1 hz2 rfl (by omega) (.slice A8 i c8) i cells1 rfl HO8.out (some ⟨g, 0, none⟩) 0 0 [] rfl HN0.out (fun v hv => by cases hv) (by unfold maxLen; omega) (by omega) ?_; intro A9 c9 w6 own9 G9 C9; have HFI := hide (HCL.out A9 c9 w6 0 [] HDL0.out HX2.out own9.out C9.out); have f3 := (C9.out.blk I5.out.blk HNE.out).frozen 3; have v3 : w6.cell? ⟨d, 3, none⟩ = some (.slice (some ⟨g, 0, none⟩) S.rows.length (i + 1)) := (C9.out.blk I5.out.blk HNE.out).cell 3; clear own9 G9 C9)
        go_ret2
        rw [HP.out]
        exact ⟨rfl, HFI.out⟩
    · have hin : inB S.rows r = false := by
        cases h : inB S.rows r with
        | false => rfl
        | true => exact absurd (hpi.2 (inB_iff.1 h)) hp0
      have HP := hide (show dropS S r = (S, false, 0) by unfold dropS; rw [HFT.out, hin]; rfl)
      clear hpi hpd hin
      go_upto_region 3 with ((with_reducible refine HF.out.mono ?_); rintro e w2 ⟨rfl, h2⟩; have X2 := hide h2; clear h2)
      have a3 : w2.cell? ⟨d, 3, none⟩ = some (.slice AR S.rows.length cR) := (HI.out.blk.ext X2.out).cell 3
      generalize plcR r S.rows 0 = p at *
      have hp1 : p < 0 := by omega
      go_wp2_with ((with_reducible refine (HPl.out w2 X2.out).mono ?_); rintro e w3 ⟨rfl, h3⟩; have X3 := hide (X2.out.trans h3); clear h3)
      go_ret2
      rw [HP.out]
      exact ⟨rfl, HIX.out _ X3.out⟩
end Go.Proofs.YtifloafhpeeepaaGreat

namespace Go.Proofs.YtifloafhpeeepaaGreat
open Go.RowKit

theorem grpS_at {S : SAbs} {k : Nat} {g : List Nat} (hg : S.gs[k]? = some g) (key : List V) : grpS S k key = S.rows.filter fun r => sameR (keyR g r) key := by
  unfold grpS
  rw [hg]
/-- a value is this row -/
def RowVal (r : List V) (u : Value) (w : World) : Prop := ∃ Ay cy, u = .slice Ay r.length cy ∧ RowAt w Ay r.length r
theorem RowVal.ext {r : List V} {u : Value} {w w' : World} (h : RowVal r u w) (hw : Ext w w') : RowVal r u w' := by
  obtain ⟨Ay, cy, h1, h2⟩ := h
  exact ⟨Ay, cy, h1, h2.ext hw⟩
/-- a row of the document's store -/
theorem DPI.row {w : World} {P : Nat → Prop} {d : Nat} {S : SAbs} {AG AR Ao : Option Addr} {cG cR no co : Nat} (h : DPI w P d S AG cG AR cR Ao no co) {i : Nat} {r : List V} (hr : S.rows[i]? = some r) : ∃ b A9 c9, AR = some ⟨b, 0, none⟩ ∧ w.cell? ⟨b, i, none⟩ = some (.slice A9 r.length c9) ∧ RowAt w A9 r.length r := by
  obtain ⟨xs, own, hx⟩ := rows_cells h.rows
  have hi := (List.getElem?_eq_some_iff.1 hr).1
  obtain ⟨b, e, -, -, hc, -⟩ := own.at_ (by omega)
  obtain ⟨cs, hcs, -, ⟨A9, n9, c9, rfl, ho⟩, hj⟩ := hx.get hr
  have h0 := hj 0 (by omega)
  rw [Nat.mul_one, Nat.add_zero] at h0
  have hat := RowAt.own ho.own
  obtain rfl := hat.len
  exact ⟨b, A9, c9, e, hc i _ h0, hat⟩
set_option maxRecDepth 100000 in
set_option maxHeartbeats 1000000 in
theorem dgroup {w : World} {P : Nat → Prop} {d : Nat} {S : SAbs} (h : DP w P d S) (hs : SOk S) {k : Nat} {g : List Nat} (hg : S.gs[k]? = some g) {key : List V} {A : Option Addr} {n : Nat} (c : Nat) (ha : ArgR w A n key) :
    Calls Tryz.prog 99 #[.pointer (some ⟨d, 0, none⟩), .int .i64 k, .slice A n c] w fun e w' => ∃ A' c', e = .returned (.tuple #[.slice A' (grpS S k key).length c', .int .i64 0]) ∧ LAt RRow 1 w' A' (grpS S k key).length (grpS S k key) ∧ Ext w w' := by
  obtain ⟨AG, cG, AR, cR, Ao, no, co, hI⟩ := h
  rw [grpS_at hg]
  have HI := hide hI; have HS := hide hs; have HA := hide ha; have HG := hide hg
  have hk : k < S.gs.length := (List.getElem?_eq_some_iff.1 hg).1
  have hlen := hs.len; have hmost := hs.most
  have hk4 : S.gs.length ≤ 4 := hs.gsl
  have a2 : w.cell? ⟨d, 2, none⟩ = some (.slice AG S.gs.length cG) := hI.blk.cell 2
  clear hI hs ha hg
  obtain ⟨gl, hgl⟩ : ∃ gl, S.gs.length = gl := ⟨_, rfl⟩
  rw [hgl] at hk a2 hk4
  have HGL := hide hgl
  clear hgl
  obtain ⟨len, hle⟩ : ∃ len, S.rows.length = len := ⟨_, rfl⟩
  rw [hle] at hlen
  have HLE := hide hle
  clear hle
  have hk0 : ¬ (k : Int) < 0 := by omega
  have hk1 : ¬ (gl : Int) ≤ (k : Int) := by omega
  have hk2 : (k : Int) < (gl : Int) := by omega
  obtain ⟨i0, hi0, hz0, hz1, hz2⟩ := info_parts infoRw
  go_enter Tryz.func99, Tryz.ntmps99
  go_wp2_with fail
  clear a2
  go_loopw [8, 9] (fun s8 s9 w' => ∃ (i n' c' : Nat) (A' : Option Addr) (cells : List Value), i ≤ len ∧ s9 = .int .i64 i ∧ s8 = .slice A' n' c' ∧ Hid (w'.ownsRow w.heap.size 30 1 (.slice A' n' c') n' cells) ∧ Hid (n' = ((S.rows.take i).filter fun r => sameR (keyR g r) key).length ∧ Els RRow 1 w cells ((S.rows.take i).filter fun r => sameR (keyR g r) key)) ∧ Hid (Ext w w')) (fun _ s9 _ => len - (intOf s9).toNat)
  case atStart => exact ⟨0, 0, 0, none, [], by omega, rfl, rfl, World.ownsRow_nil _ _ _ _, ⟨rfl, .nil⟩, Ext.refl _⟩
  case round =>
    obtain ⟨i, n', c', A', cells, hil, rfl, rfl, hO, hX, hE⟩ := hrel
    have I1 := hide (HI.out.ext hE.out (Q := P) fun _ h => h)
    have a3 : wr.cell? ⟨d, 3, none⟩ = some (.slice AR len cR) := by rw [← HLE.out]; exact I1.out.blk.cell 3
    by_cases hi : i < len
    · obtain ⟨r, hr⟩ : ∃ r, S.rows[i]? = some r := ⟨_, List.getElem?_eq_getElem (by have := HLE.out; omega)⟩
      obtain ⟨b, A9, c9, rfl, r0, hrow0⟩ := HI.out.row hr
      have r1 := hE.out.cell r0
      have hrow := hrow0.ext hE.out
      have HROW0 := hide hrow0
      clear r0 hrow0
      obtain ⟨bg, Ak, ck, rfl, g1, hnum⟩ := I1.out.group HG.out
      have hrm := HS.out.small r (List.mem_of_getElem? hr)
      have hgm := (HS.out.gs g (List.mem_of_getElem? HG.out)).1
      have hkl := (HS.out.key HG.out (List.mem_of_getElem? hr)).len
      have a2 : wr.cell? ⟨d, 2, none⟩ = some (.slice (some ⟨bg, 0, none⟩) gl cG) := by rw [← HGL.out]; exact I1.out.blk.cell 2
      have HKey := hide (fun (w1 : World) (x1 : Ext wr w1) => key_ref (gN := g) c9 ck (hrow.ext x1) (hnum.ext x1) (by omega) (by omega))
      have HSame := hide (fun (w1 : World) (x1 : Ext wr w1) (Ay : Option Addr) (cy : Nat) (hy : RowAt w1 Ay (keyR g r).length (keyR g r)) => same_any (keyR g r) key Ay A (keyR g r).length n cy c w1 hy (HA.out.ext (hE.out.trans x1)).at_ (by omega))
      have HR := hide hr
      have hil2 : (i : Int) < (len : Int) := by omega
      clear hr hrow hnum hrm hkl hgm
      go_upto_region 7 with fail
      have b3 := cell_ext a3; have b2 := cell_ext a2; have br := cell_ext r1; have bgg := cell_ext g1
      clear a3 a2 r1 g1
      refine wp_region_ext 17 (by kernel_rfl) (by kernel_rfl) (by kernel_rfl) ?_
      iterate 14
        refine wpE_k (by kernel_rfl) (by kernel_rfl) ?_
        apply Exists.intro
        refine ⟨fun w1 hw1 => ?_, fun K hK => ?_⟩
        · go_simp; first | done | rfl
        go_simp; refine hK _ _ ?_; clear hK K
      refine wpE_p [] (fun u w1 => RowVal (keyR g r) u w1) (fun u w1 w2 _ h2 h3 => h3.ext h2) rfl (by kernel_rfl) (fun w1 hw1 => ?_) ?_
      · clear b3 b2 br bgg
        simp only [LookQ]
        go_simp
        refine ⟨Ext.refl _, (HKey.out w1 hw1).mono fun e w' h => ?_⟩
        obtain ⟨Ay, cy, rfl, h2, h3⟩ := h
        exact ⟨_, rfl, h3, Ay, cy, rfl, h2⟩
      iterate 1
        refine wpE_k (by kernel_rfl) (by kernel_rfl) ?_
        apply Exists.intro
        refine ⟨fun w1 hw1 => ?_, fun K hK => ?_⟩
        · go_simp; first | done | rfl
        go_simp; refine hK _ _ ?_; clear hK K
      refine wpE_p [44] (fun u _ => u = .bool (sameR (keyR g r) key)) (fun u w1 w2 _ _ h => h) rfl (by kernel_rfl) (fun w1 hw1 => ?_) ?_
      · clear b3 b2 br bgg
        simp only [LookQ]
        intro u hu
        obtain ⟨Ay, cy, rfl, h2⟩ := hu _ rfl
        clear hu
        go_simp
        refine ⟨Ext.refl _, (HSame.out w1 hw1 Ay cy h2).mono fun e w' h => ?_⟩
        obtain ⟨rfl, h3⟩ := h
        exact ⟨rfl, h3⟩
      refine wpE_nil ⟨rfl, by kernel_rfl, fun w3 hw3 => ?_⟩
      simp only [EndQ]
      rintro _ rfl u44 _
      simp only [List.drop]
      refine wpList_nil ?_
      have E3 := hide (hE.out.trans hw3)
      have O3 := hide (mine_ext hO.out hw3)
      have a3 := b3 w3 hw3; have r1 := br w3 hw3
      have HTK := hide (show (S.rows.take (i + 1)).filter (fun r => sameR (keyR g r) key) = (S.rows.take i).filter (fun r => sameR (keyR g r) key) ++ (if sameR (keyR g r) key then [r] else []) by
        rw [List.take_add_one, HR.out, List.filter_append]
        cases hh : sameR (keyR g r) key <;> simp [hh])
      have hn' := hide (show n' ≤ len by have h1 := hX.out.1; have h2 := List.length_filter_le (fun r => sameR (keyR g r) key) (S.rows.take i); have h3 := List.length_take_le i S.rows; omega)
      clear b3 b2 br bgg hw3 HKey HSame
      cases hsm : sameR (keyR g r) key with
      | false =>
        rw [hsm] at HTK
        clear hsm
        go_wp2_with fail
        go_roundw
        case rel =>
          refine ⟨i + 1, n', c', A', cells, by omega, by go_num, rfl, O3.out, ⟨?_, ?_⟩, E3.out⟩
          · rw [HTK.out]; simpa using hX.out.1
          · rw [HTK.out]; simpa using hX.out.2
        case measure => simp [intOf]; omega
      | true =>
        rw [hsm] at HTK
        clear hsm
        have EA := hide (Ext.alloc w3 (.cells #[.slice A9 r.length c9] 30))
        have HSl := hide ((Blk.new w3 30 #[.slice A9 r.length c9]).sl (n := 1) (size := 1) rfl)
        have HONE := hide (show OneCells [Value.slice A9 r.length c9] from fun v hv => by simp at hv; rw [hv]; rfl)
        have OA := hide (mine_ext O3.out EA.out)
        go_wp2_with (at_builtin; refine wpList_append_sl rfl (.tmp 47) (.tmp 55) _ rfl 30 i0 _ 1 24 Tryz.underlying22 hi0 hz0 hz1 hz2 rfl (by omega) w (E3.out.trans EA.out) (.slice A' n' c') n' cells rfl OA.out _ 1 1 _ rfl HSl.out HONE.out (by have := hn'.out; unfold maxLen; omega) (by have := hn'.out; omega) ?_; intro A8 c8 w8 own8 E8 G8 L8)
        go_roundw
        case rel =>
          have hx8 : Els RRow 1 w (cells ++ [.slice A9 r.length c9]) ((S.rows.take (i + 1)).filter fun r => sameR (keyR g r) key) := by
            rw [HTK.out]
            exact hX.out.2.append (Els.single rfl HONE.out ⟨A9, r.length, c9, rfl, HROW0.out⟩)
          refine ⟨i + 1, n' + 1, c8, A8, _, by omega, by go_num, rfl, own8.out, ⟨?_, hx8⟩, E8.out⟩
          rw [HTK.out, List.length_append]
          have := hX.out.1
          simp; omega
        case measure => simp [intOf]; omega
    · obtain rfl : i = len := by omega
      have hfin : S.rows.take i = S.rows := List.take_of_length_le (by have := HLE.out; omega)
      have hXf := hX.out
      rw [hfin] at hXf
      have HXF := hide hXf
      clear hX hXf hfin
      go_wp2_with fail
      go_ret2
      have hn := HXF.out.1
      subst hn
      exact ⟨A', c', rfl, LAt.own rfl (HXF.out.2.ext RRow.stab hE.out) hO.out, hE.out⟩
end Go.Proofs.YtifloafhpeeepaaGreat

namespace Go.Proofs.YtifloafhpeeepaaGreat
open Go.RowKit

set_option maxRecDepth 100000 in
theorem key_refM {w : World} {r : List V} {gN : List Nat} {A B : Option Addr} {n m : Nat} (c d : Nat) (ha : RowAt w A n r) (hb : NumAt w B m (gN.map Int.ofNat)) (hn : n ≤ 1048576) (hm : m ≤ 1048576) :
    Calls Tryz.prog 18 #[.slice A n c, .slice B m d] w fun e w' => ∃ A' c', e = .returned (.slice A' (keyR gN r).length c') ∧ w'.ownsRow w.heap.size 43 3 (.slice A' (keyR gN r).length c') (keyR gN r).length (cellsR (keyR gN r)) ∧ Ext w w' := by
  have HP := hide (ref_proj_any r (gN.map Int.ofNat) A B n m c d w ha hb hn hm)
  clear ha hb
  unfold keyR
  generalize projR r (gN.map Int.ofNat) = pr at *
  go_enter Tryz.func18, Tryz.ntmps18
  go_wp2_with ((with_reducible refine HP.out.mono ?_); rintro e w2 ⟨A', c', rfl, ho, hx⟩; have O2 := hide ho; have X2 := hide hx; clear ho hx)
  go_ret
  exact ⟨A', c', rfl, O2.out, X2.out⟩
/-- a value is this row, of one's own -/
def RowMine (b : Nat) (r : List V) (u : Value) (w : World) : Prop := ∃ Ay cy, u = .slice Ay r.length cy ∧ w.ownsRow b 43 3 (.slice Ay r.length cy) r.length (cellsR r)
theorem RowMine.ext {b : Nat} {r : List V} {u : Value} {w w' : World} (h : RowMine b r u w) (hw : Ext w w') : RowMine b r u w' := by
  obtain ⟨Ay, cy, h1, h2⟩ := h
  exact ⟨Ay, cy, h1, mine_ext h2 hw⟩
/-- a slice of one such row -/
def OneMine (b : Nat) (r : List V) (u : Value) (w : World) : Prop := ∃ gb Ay cy, u = .slice (some ⟨gb, 0, none⟩) 1 1 ∧ Blk w gb 30 #[.slice Ay r.length cy] ∧ w.ownsRow b 43 3 (.slice Ay r.length cy) r.length (cellsR r)
theorem OneMine.ext {b : Nat} {r : List V} {u : Value} {w w' : World} (h : OneMine b r u w) (hw : Ext w w') : OneMine b r u w' := by
  obtain ⟨gb, Ay, cy, h1, h2, h3⟩ := h
  exact ⟨gb, Ay, cy, h1, h2.ext hw, mine_ext h3 hw⟩
set_option maxRecDepth 100000 in
set_option maxHeartbeats 1000000 in
theorem dkeys {w : World} {P : Nat → Prop} {d : Nat} {S : SAbs} (h : DP w P d S) (hs : SOk S) {k : Nat} {g : List Nat} (hg : S.gs[k]? = some g) :
    Calls Tryz.prog 69 #[.pointer (some ⟨d, 0, none⟩), .int .i64 k] w fun e w' => ∃ A' c', e = .returned (.tuple #[.slice A' (keysS S g).length c', .int .i64 0]) ∧ MineV w.heap.size w' A' (keysS S g).length c' (keysS S g) ∧ Ext w w' := by
  obtain ⟨AG, cG, AR, cR, Ao, no, co, hI⟩ := h
  have HI := hide hI; have HS := hide hs; have HG := hide hg
  have hk : k < S.gs.length := (List.getElem?_eq_some_iff.1 hg).1
  have hlen := hs.len; have hmost := hs.most
  have hk4 : S.gs.length ≤ 4 := hs.gsl
  have a2 : w.cell? ⟨d, 2, none⟩ = some (.slice AG S.gs.length cG) := hI.blk.cell 2
  clear hI hs hg
  obtain ⟨gl, hgl⟩ : ∃ gl, S.gs.length = gl := ⟨_, rfl⟩
  rw [hgl] at hk a2 hk4
  have HGL := hide hgl
  clear hgl
  obtain ⟨len, hle⟩ : ∃ len, S.rows.length = len := ⟨_, rfl⟩
  rw [hle] at hlen
  have HLE := hide hle
  clear hle
  have hk0 : ¬ (k : Int) < 0 := by omega
  have hk1 : ¬ (gl : Int) ≤ (k : Int) := by omega
  have hk2 : (k : Int) < (gl : Int) := by omega
  obtain ⟨i0, hi0, hz0, hz1, hz2⟩ := info_parts infoRw
  go_enter Tryz.func69, Tryz.ntmps69
  go_wp2_with fail
  clear a2
  go_loopw [6, 7] (fun s6 s7 w' => ∃ (i c' : Nat) (A' : Option Addr) (cells : List Value), i ≤ len ∧ s7 = .int .i64 i ∧ s6 = .slice A' i c' ∧ Hid (w'.ownsRow w.heap.size 30 1 (.slice A' i c') i cells) ∧ Hid (Els (RMine w.heap.size) 1 w' cells ((S.rows.take i).map (keyR g))) ∧ Hid (Ext w w')) (fun _ s7 _ => len - (intOf s7).toNat)
  case atStart => exact ⟨0, 0, none, [], by omega, rfl, rfl, World.ownsRow_nil _ _ _ _, .nil, Ext.refl _⟩
  case round =>
    obtain ⟨i, c', A', cells, hil, rfl, rfl, hO, hX, hE⟩ := hrel
    have I1 := hide (HI.out.ext hE.out (Q := P) fun _ h => h)
    have a3 : wr.cell? ⟨d, 3, none⟩ = some (.slice AR len cR) := by rw [← HLE.out]; exact I1.out.blk.cell 3
    by_cases hi : i < len
    · obtain ⟨r, hr⟩ : ∃ r, S.rows[i]? = some r := ⟨_, List.getElem?_eq_getElem (by have := HLE.out; omega)⟩
      obtain ⟨b, A9, c9, rfl, r1, hrow⟩ := I1.out.row hr
      obtain ⟨bg, Ak, ck, rfl, g1, hnum⟩ := I1.out.group HG.out
      have hrm := HS.out.small r (List.mem_of_getElem? hr)
      have hgm := (HS.out.gs g (List.mem_of_getElem? HG.out)).1
      have a2 : wr.cell? ⟨d, 2, none⟩ = some (.slice (some ⟨bg, 0, none⟩) gl cG) := by rw [← HGL.out]; exact I1.out.blk.cell 2
      have HKey := hide (fun (w1 : World) (x1 : Ext wr w1) => key_refM (gN := g) c9 ck (hrow.ext x1) (hnum.ext x1) (by omega) (by omega))
      have HR := hide hr
      have hil2 : (i : Int) < (len : Int) := by omega
      have hE0 := hide hE.out.size
      clear hr hrow hnum hrm hgm
      go_upto_region 7 with fail
      have b3 := cell_ext a3; have b2 := cell_ext a2; have br := cell_ext r1; have bgg := cell_ext g1
      clear a3 a2 r1 g1
      refine wp_region_ext 17 (by kernel_rfl) (by kernel_rfl) (by kernel_rfl) ?_
      iterate 15
        refine wpE_k (by kernel_rfl) (by kernel_rfl) ?_
        apply Exists.intro
        refine ⟨fun w1 hw1 => ?_, fun K hK => ?_⟩
        · go_simp; first | done | rfl
        go_simp; refine hK _ _ ?_; clear hK K
      refine wpE_p [] (fun u w1 => RowMine w.heap.size (keyR g r) u w1) (fun u w1 w2 _ h2 h3 => h3.ext h2) rfl (by kernel_rfl) (fun w1 hw1 => ?_) ?_
      · clear b3 b2 br bgg
        simp only [LookQ]
        go_simp
        refine ⟨Ext.refl _, (HKey.out w1 hw1).mono fun e w' h => ?_⟩
        obtain ⟨Ay, cy, rfl, h2, h3⟩ := h
        exact ⟨_, rfl, h3, Ay, cy, rfl, own_base0 h2 (Nat.le_trans hE0.out hw1.size)⟩
      refine wpE_p [43] (fun u w1 => OneMine w.heap.size (keyR g r) u w1) (fun u w1 w2 _ h2 h3 => h3.ext h2) rfl (by kernel_rfl) (fun w1 hw1 => ?_) ?_
      · clear b3 b2 br bgg
        simp only [LookQ]
        intro u hu
        obtain ⟨Ay, cy, rfl, h2⟩ := hu _ rfl
        clear hu
        go_simp
        exact ⟨Ext.alloc _ _, _, Ay, cy, rfl, Blk.new _ _ _, mine_ext h2 (Ext.alloc _ _)⟩
      refine wpE_nil ⟨rfl, by kernel_rfl, fun w3 hw3 => ?_⟩
      simp only [EndQ]
      rintro _ ⟨gb, Ay, cy, rfl, hgb, hrow⟩ u43 _
      simp only [List.drop]
      clear b3 b2 br bgg
      have E3 := hide (hE.out.trans hw3)
      have O3 := hide (mine_ext hO.out hw3)
      have X3 := hide (hX.out.mono (w' := w3) (R' := RMine w.heap.size) fun _ _ hr => RMine.stab _ _ _ _ _ hw3 hr)
      have HSl := hide (hgb.sl (n := 1) (size := 1) rfl)
      have HONE := hide (show OneCells [Value.slice Ay (keyR g r).length cy] from fun v hv => by simp at hv; rw [hv]; rfl)
      have HROW := hide hrow
      clear hgb hrow hw3 HKey
      go_wp2_with (at_builtin; refine wpList_append_sl rfl (.tmp 28) (.tmp 44) _ rfl 30 i0 _ 1 24 Tryz.underlying22 hi0 hz0 hz1 hz2 rfl (by omega) w E3.out (.slice A' i c') i cells rfl O3.out _ 1 1 _ rfl HSl.out HONE.out (by unfold maxLen; omega) (by omega) ?_; intro A8 c8 w8 own8 E8 G8 L8)
      have HX8 := hide (show Els (RMine w.heap.size) 1 w8 (cells ++ [.slice Ay (keyR g r).length cy]) ((S.rows.take (i + 1)).map (keyR g)) from by
        rw [List.take_add_one, HR.out, List.map_append]
        refine (X3.out.mono fun _ _ hr => RMine.other hr O3.out (by decide) G8.out).append (Els.single rfl HONE.out ?_)
        exact RMine.other ⟨Ay, _, cy, rfl, HROW.out⟩ O3.out (by decide) G8.out)
      clear G8 L8 X3 O3
      go_roundw
      case rel => exact ⟨i + 1, c8, A8, _, by omega, by go_num, rfl, own8.out, HX8, E8.out⟩
      case measure => simp [intOf]; omega
    · obtain rfl : i = len := by omega
      have hfin : S.rows.take i = S.rows := List.take_of_length_le (by have := HLE.out; omega)
      have hXf := hX.out
      rw [hfin] at hXf
      have hmn : i = (S.rows.map (keyR g)).length := by rw [List.length_map]; exact HLE.out.symm
      have hcap : i ≤ c' := ((⟨mine_base hO.out (Nat.zero_le _), fun _ _ => trivial⟩ : OwnH wr (fun _ => True) 30 1 i (.slice A' i c') cells)).cap.1
      have HAR := hide (ref_arrange i (S.rows.map (keyR g)) A' i c' wr (by rw [← hmn]; exact Nat.le_refl _) (LAt.own hmn (hXf.mono fun _ _ h => h.row) hO.out) hcap (by omega) (fun r hr => by
        obtain ⟨q, hq, e⟩ := List.mem_map.1 hr
        subst e
        have h0 := HS.out.key HG.out hq
        have h1 := h0.len
        have h2 := (HS.out.gs g (List.mem_of_getElem? HG.out)).1
        exact ⟨by omega, h0.small⟩))
      clear hX hXf hfin hmn hcap
      go_wp2_with fail
      refine HAR.out.mono ?_
      rintro e w9 h9
      obtain ⟨A9, n9, c9, cells9, rfl, hn9, ho9, hx9, hE9⟩ := h9
      have H9 := hide (And.intro hn9 (And.intro ho9 (And.intro hx9 hE9)))
      clear hn9 ho9 hx9 hE9 HAR
      go_wp2_with fail
      go_ret2
      have hn9 := H9.out.1
      subst hn9
      have hsz := hE.out.size
      exact ⟨A9, c9, rfl, ⟨cells9, rfl, own_base0 H9.out.2.1 hsz, H9.out.2.2.1.mono fun cs r h => by
        obtain ⟨A, n, c, e, ho⟩ := h
        exact ⟨A, n, c, e, own_base0 ho hsz⟩⟩, hE.out.trans H9.out.2.2.2⟩
set_option maxRecDepth 100000 in
theorem dkeys_bad {w : World} {P : Nat → Prop} {d : Nat} {S : SAbs} (h : DP w P d S) {k : Int} (hk : k < 0 ∨ (S.gs.length : Int) ≤ k) :
    Calls Tryz.prog 69 #[.pointer (some ⟨d, 0, none⟩), .int .i64 k] w fun e w' => e = .returned (.tuple #[.slice none 0 0, .int .i64 63]) ∧ w' = w := by
  obtain ⟨AG, cG, AR, cR, Ao, no, co, hI⟩ := h
  have a2 : w.cell? ⟨d, 2, none⟩ = some (.slice AG S.gs.length cG) := hI.blk.cell 2
  clear hI
  generalize S.gs.length = gl at *
  go_enter Tryz.func69, Tryz.ntmps69
  by_cases h0 : k < 0
  · go_wp2_with fail
    go_ret2
    exact ⟨rfl, rfl⟩
  · have h1 : (gl : Int) ≤ k := hk.resolve_left h0
    go_wp2_with fail
    go_ret2
    exact ⟨rfl, rfl⟩
set_option maxRecDepth 100000 in
theorem dgroup_bad {w : World} {P : Nat → Prop} {d : Nat} {S : SAbs} (h : DP w P d S) {k : Int} (hk : k < 0 ∨ (S.gs.length : Int) ≤ k) (A : Option Addr) (n c : Nat) :
    Calls Tryz.prog 99 #[.pointer (some ⟨d, 0, none⟩), .int .i64 k, .slice A n c] w fun e w' => e = .returned (.tuple #[.slice none 0 0, .int .i64 63]) ∧ w' = w := by
  obtain ⟨AG, cG, AR, cR, Ao, no, co, hI⟩ := h
  have a2 : w.cell? ⟨d, 2, none⟩ = some (.slice AG S.gs.length cG) := hI.blk.cell 2
  clear hI
  generalize S.gs.length = gl at *
  go_enter Tryz.func99, Tryz.ntmps99
  by_cases h0 : k < 0
  · go_wp2_with fail
    go_ret2
    exact ⟨rfl, rfl⟩
  · have h1 : (gl : Int) ≤ k := hk.resolve_left h0
    go_wp2_with fail
    go_ret2
    exact ⟨rfl, rfl⟩
set_option maxRecDepth 100000 in
theorem dnext_bad {w : World} {P : Nat → Prop} {d : Nat} {S : SAbs} (h : DP w P d S) {k : Int} (hk : k < 0 ∨ (S.gs.length : Int) ≤ k) (A : Option Addr) (n c : Nat) :
    Calls Tryz.prog 68 #[.pointer (some ⟨d, 0, none⟩), .int .i64 k, .slice A n c] w fun e w' => e = .returned (.tuple #[.slice none 0 0, .bool false, .int .i64 63]) ∧ w' = w := by
  obtain ⟨AG, cG, AR, cR, Ao, no, co, hI⟩ := h
  have a2 : w.cell? ⟨d, 2, none⟩ = some (.slice AG S.gs.length cG) := hI.blk.cell 2
  clear hI
  generalize S.gs.length = gl at *
  go_enter Tryz.func68, Tryz.ntmps68
  by_cases h0 : k < 0
  · go_wp2_with fail
    go_ret3
    exact ⟨rfl, rfl⟩
  · have h1 : (gl : Int) ≤ k := hk.resolve_left h0
    go_wp2_with fail
    go_ret3
    exact ⟨rfl, rfl⟩
/-- the row behind this one, as it is told -/
def NxtSays (o : Option (List V)) (e : Ending) (w' : World) : Prop := match o with
  | none => e = .returned (.tuple #[.slice none 0 0, .bool false, .int .i64 0])
  | some q => ∃ A c, e = .returned (.tuple #[.slice A q.length c, .bool true, .int .i64 0]) ∧ RowAt w' A q.length q
def DNext (S : SAbs) (k : Nat) (g : List Nat) (r : List V) (e : Ending) (w' : World) : Prop := (inB S.rows r = false ∧ e = .returned (.tuple #[.slice none 0 0, .bool false, .int .i64 62])) ∨ (inB S.rows r = true ∧ ∀ i, (grpS S k (keyR g r))[i]? = some r → NxtSays (grpS S k (keyR g r))[i + 1]? e w')
set_option maxRecDepth 100000 in
set_option maxHeartbeats 1000000 in
theorem dnext {w : World} {P : Nat → Prop} {d : Nat} {S : SAbs} (h : DP w P d S) (hs : SOk S) {k : Nat} {g : List Nat} (hg : S.gs[k]? = some g) {r : List V} {A : Option Addr} {n : Nat} (c : Nat) (ha : ArgR w A n r) :
    Calls Tryz.prog 68 #[.pointer (some ⟨d, 0, none⟩), .int .i64 k, .slice A n c] w fun e w' => Ext w w' ∧ DNext S k g r e w' := by
  have hD := hide h
  obtain ⟨AG, cG, AR, cR, Ao, no, co, hI⟩ := h
  have HHas := hide (has_inB S.rows r AR A S.rows.length n cR c w hI.rows.lat ha.at_ (by have := hs.len; have := hs.most; omega) (fun s hs2 => by have := hs.small s hs2; omega))
  have HI := hide hI; have HS := hide hs; have HG := hide hg; have HA := hide ha
  have hk : k < S.gs.length := (List.getElem?_eq_some_iff.1 hg).1
  have hk4 : S.gs.length ≤ 4 := hs.gsl
  obtain ⟨bg, Ak, ck, rfl, g1, hnum⟩ := hI.group hg
  have HNUM := hide hnum
  have a2 : w.cell? ⟨d, 2, none⟩ = some (.slice (some ⟨bg, 0, none⟩) S.gs.length cG) := hI.blk.cell 2
  have a3 : w.cell? ⟨d, 3, none⟩ = some (.slice AR S.rows.length cR) := hI.blk.cell 3
  clear hI hs hg ha hnum
  obtain ⟨gl, hgl⟩ : ∃ gl, S.gs.length = gl := ⟨_, rfl⟩
  rw [hgl] at hk a2 hk4
  have HGL := hide hgl
  clear hgl
  have hk0 : ¬ (k : Int) < 0 := by omega
  have hk1 : ¬ (gl : Int) ≤ (k : Int) := by omega
  have hk2 : (k : Int) < (gl : Int) := by omega
  go_enter Tryz.func68, Tryz.ntmps68
  cases hi : inB S.rows r with
  | false =>
    rw [hi] at HHas
    have HIF := hide hi
    clear hi
    go_wp2_with ((with_reducible refine HHas.out.mono ?_); rintro e w2 ⟨rfl, h2⟩; have X2 := hide h2; clear h2)
    go_ret3
    exact ⟨X2.out, .inl ⟨HIF.out, rfl⟩⟩
  | true =>
    rw [hi] at HHas
    have hin := inB_iff.1 hi
    have hrl := HS.out.small r hin
    have HIN := hide hin
    clear hi hin
    go_upto_region 5 with ((with_reducible refine HHas.out.mono ?_); rintro e w2 ⟨rfl, h2⟩; have X2 := hide h2; clear h2)
    have a2 : w2.cell? ⟨d, 2, none⟩ = some (.slice (some ⟨bg, 0, none⟩) gl cG) := by rw [← HGL.out]; exact (HI.out.blk.ext X2.out).cell 2
    have g1 := X2.out.cell g1
    have HKY := hide (key_ref (gN := g) c ck (HA.out.ext X2.out).at_ (HNUM.out.ext X2.out) HA.out.len (by have := (HS.out.gs g (List.mem_of_getElem? HG.out)).1; omega))
    clear hrl
    go_wp2_with fail
    refine HKY.out.mono ?_
    rintro e w3 ⟨A3, c3, rfl, h3, x3⟩
    have H3 := hide h3; have X3 := hide (X2.out.trans x3)
    have hkg := HS.out.key HG.out HIN.out
    have HGR := hide (dgroup (hD.out.ext X3.out fun _ h => h) HS.out HG.out c3 (⟨h3, by have h1 := hkg.len; have h2 := (HS.out.gs g (List.mem_of_getElem? HG.out)).1; omega, hkg.small, hkg.wf⟩ : ArgR w3 A3 (keyR g r).length (keyR g r)))
    obtain ⟨F, hF⟩ : ∃ F, grpS S k (keyR g r) = F := ⟨_, rfl⟩
    rw [hF] at HGR
    have HFE := hide hF
    have HFF := hide (show F.Nodup ∧ F.length ≤ 65536 ∧ (∀ s ∈ F, s.length ≤ 30) ∧ r ∈ F from by
      rw [← hF, grpS_at HG.out]
      have h1 := List.length_filter_le (fun q => sameR (keyR g q) (keyR g r)) S.rows
      have h2 := HS.out.len; have h3 := HS.out.most
      exact ⟨HS.out.nd.filter _, by omega, fun s hs => HS.out.small s (List.mem_filter.1 hs).1, List.mem_filter.2 ⟨HIN.out, sameR_iff.2 rfl⟩⟩)
    clear h3 x3 hkg HKY hF
    go_wp2_with fail
    refine HGR.out.mono ?_
    rintro e w4 ⟨A4, c4, rfl, h4, x4⟩
    have H4 := hide h4; have X4 := hide (X3.out.trans x4)
    obtain ⟨i, hil, hir⟩ := List.getElem_of_mem HFF.out.2.2.2
    have hig : F[i]? = some r := by rw [List.getElem?_eq_getElem hil, hir]
    have hpl := place_rows F r A4 A F.length n c4 c w4 h4 (HA.out.ext X4.out).at_ (by have := HFF.out.2.1; omega) (fun s hs => by have := HFF.out.2.2.1 s hs; omega)
    rw [plcR_at 0 HFF.out.1 hig, Nat.zero_add] at hpl
    have HPL := hide hpl; have HIG := hide hig
    clear h4 x4 HGR hpl hig hir
    obtain ⟨fl, hfl⟩ : ∃ fl, F.length = fl := ⟨_, rfl⟩
    rw [hfl] at HPL H4 hil ⊢
    have HFL := hide hfl
    have hfl6 : fl ≤ 65536 := by have := HFF.out.2.1; omega
    clear hfl
    go_wp2_with fail
    refine HPL.out.mono ?_
    rintro e w5 ⟨rfl, x5⟩
    have X5 := hide (X4.out.trans x5)
    have H5 := hide (H4.out.ext RRow.stab x5)
    clear x5 HPL H4
    by_cases hin : i + 1 < fl
    · obtain ⟨q, hq⟩ : ∃ q, F[i + 1]? = some q := ⟨_, List.getElem?_eq_getElem (by have := HFL.out; omega)⟩
      obtain ⟨b, off, q', A9, c9, rfl, hq', hc9, hr9⟩ := H5.out.rowS hin
      obtain rfl : q = q' := Option.some.inj (hq.symm.trans hq')
      have HQ := hide hq; have HR9 := hide hr9
      have hin2 : ((i : Int) + 1) < (fl : Int) := by omega
      have hc9' : w5.cell? ⟨b, off + (i + 1), none⟩ = some (.slice A9 q.length c9) := hc9
      clear hq hq' hr9 hc9
      go_wp2_with fail
      go_ret3
      refine ⟨X5.out, .inr ⟨inB_iff.2 HIN.out, fun j hj => ?_⟩⟩
      rw [HFE.out] at hj ⊢
      obtain rfl := nodup_at HFF.out.1 hj HIG.out
      rw [HQ.out]
      exact ⟨A9, c9, rfl, HR9.out⟩
    · have hin2 : ¬ ((i : Int) + 1) < (fl : Int) := by omega
      go_wp2_with fail
      go_ret3
      refine ⟨X5.out, .inr ⟨inB_iff.2 HIN.out, fun j hj => ?_⟩⟩
      rw [HFE.out] at hj ⊢
      obtain rfl := nodup_at HFF.out.1 hj HIG.out
      rw [List.getElem?_eq_none (by have := HFL.out; omega)]
      exact rfl
end Go.Proofs.YtifloafhpeeepaaGreat
