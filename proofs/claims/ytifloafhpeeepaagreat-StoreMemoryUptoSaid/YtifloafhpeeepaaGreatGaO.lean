/-
  The rows' order, as plain Lean: a total order; a row comes ahead of all that go on from it.
  Keys sorted.
  hashidx: Keys.
-/
import Derived.Test.YtifloafhpeeepaaGreatGround
import Derived.Test.YtifloafhpeeepaaGreatGbQ
import Derived.Lib.SliceRun
namespace Go.Proofs.YtifloafhpeeepaaGreat

structure IsCmp {α : Type} (c : α → α → Int) : Prop where
  range : ∀ a b, c a b = -1 ∨ c a b = 0 ∨ c a b = 1
  anti : ∀ a b, c b a = - c a b
  eq : ∀ a b, c a b = 0 ↔ a = b
  trans : ∀ a b d, c a b ≤ 0 → c b d ≤ 0 → c a d ≤ 0

theorem isCmp_int : IsCmp cmpI where
  range a b := by unfold cmpI; split <;> (try split) <;> omega
  anti a b := by unfold cmpI; split <;> split <;> (try split) <;> omega
  eq a b := by unfold cmpI; split <;> (try split) <;> omega
  trans a b d := by
    unfold cmpI
    by_cases h1 : a < b <;> by_cases h2 : b < a <;> by_cases h3 : b < d <;> by_cases h4 : d < b <;> by_cases h5 : a < d <;> by_cases h6 : d < a <;> simp [h1, h2, h3, h4, h5, h6] <;> omega

section
variable {α β γ : Type}
theorem IsCmp.pull {c : β → β → Int} (h : IsCmp c) (f : α → β) (hf : ∀ a b, f a = f b → a = b) : IsCmp fun a b => c (f a) (f b) where
  range a b := h.range _ _
  anti a b := h.anti _ _
  eq a b := (h.eq _ _).trans ⟨hf a b, fun e => by rw [e]⟩
  trans a b d := h.trans _ _ _

theorem IsCmp.pair {c : β → β → Int} {d : γ → γ → Int} (hc : IsCmp c) (hd : IsCmp d) (f : α → β) (g : α → γ) (hfg : ∀ a b, f a = f b → g a = g b → a = b) :
    IsCmp fun a b => if c (f a) (f b) = 0 then d (g a) (g b) else c (f a) (f b) where
  range a b := by
    have h1 := hc.range (f a) (f b)
    have h2 := hd.range (g a) (g b)
    split <;> assumption
  anti a b := by
    have h1 := hc.anti (f a) (f b)
    have h2 := hd.anti (g a) (g b)
    split <;> split <;> omega
  eq a b := by
    split
    · rename_i h
      rw [hd.eq]
      exact ⟨hfg a b ((hc.eq _ _).1 h), fun e => by rw [e]⟩
    · rename_i h
      exact ⟨fun h' => absurd h' h, fun e => absurd ((hc.eq _ _).2 (by rw [e])) h⟩
  trans a b e := by
    have h1 := hc.trans (f a) (f b) (f e)
    have h2 := hd.trans (g a) (g b) (g e)
    have h3 := hc.trans (f b) (f e) (f a)
    have h4 := hc.trans (f e) (f a) (f b)
    have a1 := hc.anti (f a) (f b)
    have a2 := hc.anti (f b) (f e)
    have a3 := hc.anti (f a) (f e)
    split <;> split <;> split <;> omega

def lexL (c : α → α → Int) : List α → List α → Int
  | [], [] => 0
  | [], _ :: _ => -1
  | _ :: _, [] => 1
  | a :: l, b :: m => if c a b = 0 then lexL c l m else c a b

theorem IsCmp.lex {c : α → α → Int} (h : IsCmp c) : IsCmp (lexL c) where
  range a := by
    induction a with
    | nil => intro b; cases b <;> simp [lexL]
    | cons x l ih =>
      intro b
      cases b with
      | nil => simp [lexL]
      | cons y m =>
        have := h.range x y
        simp only [lexL]
        split
        · exact ih m
        · exact this
  anti a := by
    induction a with
    | nil => intro b; cases b <;> simp [lexL]
    | cons x l ih =>
      intro b
      cases b with
      | nil => simp [lexL]
      | cons y m =>
        have h1 := h.anti x y
        have h2 := ih m
        simp only [lexL]
        split <;> split <;> omega
  eq a := by
    induction a with
    | nil => intro b; cases b <;> simp [lexL]
    | cons x l ih =>
      intro b
      cases b with
      | nil => simp [lexL]
      | cons y m =>
        simp only [lexL, List.cons.injEq]
        split
        · rename_i hc
          rw [ih m]
          exact ⟨fun e => ⟨(h.eq _ _).1 hc, e⟩, fun e => e.2⟩
        · rename_i hc
          exact ⟨fun h' => absurd h' hc, fun e => absurd ((h.eq _ _).2 e.1) hc⟩
  trans a := by
    induction a with
    | nil => intro b d _ _; cases d <;> simp [lexL]
    | cons x l ih =>
      intro b d
      cases b with
      | nil => simp [lexL]
      | cons y m =>
        cases d with
        | nil => simp [lexL]
        | cons z n =>
          have h1 := h.trans x y z
          have h2 := ih m n
          have h3 := h.trans y z x
          have h4 := h.trans z x y
          have a1 := h.anti x y
          have a2 := h.anti y z
          have a3 := h.anti x z
          simp only [lexL]
          split <;> split <;> split <;> omega
end

def cmpU (a b : UInt8) : Int := cmpI a.toNat b.toNat
theorem isCmp_u8 : IsCmp cmpU := isCmp_int.pull (fun a : UInt8 => (a.toNat : Int)) fun a b h => UInt8.toNat_inj.1 (by omega)
theorem compareBytes_lex : ∀ a b : List UInt8, Lib.compareBytes a b = lexL cmpU a b
  | [], [] => rfl
  | [], _ :: _ => rfl
  | _ :: _, [] => rfl
  | x :: a, y :: b => by
    have h1 : (x < y) ↔ ((x.toNat : Int) < y.toNat) := by rw [UInt8.lt_iff_toNat_lt]; omega
    have h2 : (y < x) ↔ ((y.toNat : Int) < x.toNat) := by rw [UInt8.lt_iff_toNat_lt]; omega
    simp only [Lib.compareBytes, lexL, cmpU, cmpI, h1, h2, compareBytes_lex a b]
    split
    · simp
    · split <;> simp
theorem isCmp_bytes : IsCmp cmpB := by
  have h : cmpB = fun a b => lexL cmpU a.data.toList b.data.toList := by
    funext a b; exact compareBytes_lex _ _
  rw [h]
  refine (isCmp_u8.lex).pull (fun a : ByteArray => a.data.toList) fun a b h => ?_
  obtain ⟨a⟩ := a; obtain ⟨b⟩ := b
  exact congrArg ByteArray.mk (Array.toList_inj.1 h)
theorem isCmp_val : IsCmp cmpV := by
  have h : cmpV = fun a b => if cmpI a.k b.k = 0 then (if cmpI a.i b.i = 0 then cmpB a.t b.t else cmpI a.i b.i) else cmpI a.k b.k := by
    funext a b
    simp only [cmpV, orI]
    split
    · split
      · split
        · rename_i h; rw [h]
        · rfl
      · rfl
    · rfl
  rw [h]
  have h2 : IsCmp fun a b : Int × ByteArray => if cmpI a.1 b.1 = 0 then cmpB a.2 b.2 else cmpI a.1 b.1 :=
    isCmp_int.pair isCmp_bytes (·.1) (·.2) fun a b h1 h2 => Prod.ext h1 h2
  exact isCmp_int.pair h2 (fun a : V => a.k) (fun a : V => (a.i, a.t)) fun a b h1 h2 => by
    obtain ⟨k, i, t⟩ := a; obtain ⟨k', i', t'⟩ := b
    simp at h1 h2
    simp [h1, h2]
theorem cmpR_lex : ∀ a b : List V, cmpR a b = lexL cmpV a b
  | [], [] => rfl
  | [], _ :: _ => rfl
  | _ :: _, [] => rfl
  | x :: a, y :: b => by simp only [cmpR, lexL, cmpR_lex a b]
theorem isCmp_row : IsCmp cmpR := by
  have h : cmpR = lexL cmpV := by funext a b; exact cmpR_lex a b
  rw [h]; exact isCmp_val.lex

end Go.Proofs.YtifloafhpeeepaaGreat

namespace Go.Proofs.YtifloafhpeeepaaGreat
open Go.RowKit Go.Shelf Go.Lib Go.Sort

theorem isCmp_keys : IsCmp Lib.compareBytes := by
  have h : Lib.compareBytes = lexL cmpU := by
    funext a b; exact compareBytes_lex a b
  rw [h]; exact isCmp_u8.lex
theorem cmpK_self (a : List UInt8) : Lib.compareBytes a a = 0 := (isCmp_keys.eq a a).2 rfl
theorem cmpK_lt_trans {a b c : List UInt8} (h : Lib.compareBytes a b < 0) (k : Lib.compareBytes b c < 0) : Lib.compareBytes a c < 0 := by
  have h1 := isCmp_keys.trans a b c (by omega) (by omega)
  have h2 := isCmp_keys.range a c
  rcases h2 with h2 | h2 | h2
  · omega
  · have e := (isCmp_keys.eq a c).1 h2
    subst e
    have := isCmp_keys.anti a b
    omega
  · omega
theorem grow_self (W : World) : ∃ q os, W = grow (W.drewN q) os := by
  refine ⟨0, #[], ?_⟩
  obtain ⟨heap, tape, drawn, os, out⟩ := W
  simp [grow, World.drewN]
theorem sort_chg {α : Type} [Inhabited α] {enc : α → Value} (w : World) (blk off m : Nat) (dk : Array α) (os : Array Obj) : Chg (fun k => k = blk) w (sortWorld enc w blk off m dk os) := by
  refine ⟨rfl, rfl, rfl, ?_, fun k hk hn => ?_⟩
  · simp only [sortWorld, grow, putRow, mapBlock, Sort.ahead, Array.size_append, Array.size_modify]
    omega
  · simp only [sortWorld, grow, putRow, mapBlock, Sort.ahead]
    rw [Array.getElem?_append_left (by simpa using hk), Array.getElem?_modify, if_neg (by omega)]

/-- a key, and where it lies -/
structure KP where
  A : Option Addr
  n : Nat
  c : Nat
  r : List UInt8
def KP.val (p : KP) : Value := .slice p.A p.n p.c
def KP.ok (w : World) (g : Nat) (p : KP) : Prop := KeyAt w p.A p.n p.r ∧ ∀ a, p.A = some a → a.block ≠ g
theorem KP.ok.chg {w w' : World} {g : Nat} {p : KP} (h : p.ok w g) (hw : Chg (fun k => k = g) w w') : KeyAt w' p.A p.n p.r := hw.key h.1 h.2
def kpC (ps : List KP) : Array Value := (ps.map KP.val).toArray
def kpLe (a b : KP) : Prop := Lib.compareBytes a.r b.r ≤ 0

theorem swo_of {α : Type} (f : α → List UInt8) : SWO (ltOf fun x y : α => Lib.compareBytes (f x) (f y)) where
  irrefl x := by simp [ltOf, cmpK_self]
  trans x y z h1 h2 := by
    simp only [ltOf, decide_eq_true_iff] at *
    exact cmpK_lt_trans h1 h2
  ntrans x y z h1 h2 := by
    simp only [ltOf, decide_eq_false_iff_not] at *
    have a1 := isCmp_keys.anti (f x) (f y)
    have a2 := isCmp_keys.anti (f y) (f z)
    have a3 := isCmp_keys.anti (f x) (f z)
    have := isCmp_keys.trans (f z) (f y) (f x) (by omega) (by omega)
    omega

theorem sort_keys (ps : List KP) (tl : List Value) (w : World) (g c : Nat) (hB : Blk w g 88 (ps.map KP.val ++ tl).toArray) (hok : ∀ p ∈ ps, p.ok w g) (hn : ps.length ≤ 16777216) (h0 : 0 < ps.length) :
    Calls Tryz.prog 90 #[.slice (some ⟨g, 0, none⟩) ps.length c, .func (.func 91) #[] #[]] w fun e w' => e = .returned (.tuple #[]) ∧
      ∃ ps' : List KP, ps'.Perm ps ∧ ps'.Pairwise kpLe ∧ Blk w' g 88 (ps'.map KP.val ++ tl).toArray ∧ Chg (fun k => k = g) w w' := by
  let α := { p : KP // p.ok w g }
  haveI : Inhabited α := ⟨⟨ps[0], hok _ (List.getElem_mem h0)⟩⟩
  let dl : List α := ps.attach.map fun p => ⟨p.1, hok p.1 p.2⟩
  have hdl : dl.map (·.1) = ps := by simp [dl, List.map_map, Function.comp_def]
  have hlen : dl.toArray.size = ps.length := by simp [dl]
  let enc : α → Value := fun x => x.1.val
  let cf : α → α → Int := fun x y => Lib.compareBytes x.1.r y.1.r
  have eg : ∀ args w, (callFunc 91 args).run Tryz.prog w = .ok (.enter 91 args) w := enters_of Tryz.func91 (by kernel_rfl) rfl
  have hcmp : CmpLays1 Tryz.prog 91 #[] enc cf g 0 dl.toArray.size w := fun m os dk _ x y => by
    have h1 := sort_chg (enc := enc) w g 0 m dk os
    exact (cmp_keys (KP.ok.chg x.2 h1) (KP.ok.chg y.2 h1) x.1.c y.1.c).mono fun e w' ⟨he, hx⟩ => ⟨he, hx ▸ grow_self _⟩
  have hcell : ∀ j (hj : j < dl.length), w.cell? ⟨g, j, none⟩ = some (enc dl[j]) := fun j hj => by
    rw [hB.cell j]
    have hj' : j < ps.length := by simpa [dl] using hj
    have : dl[j].1 = ps[j] := by simp [dl]
    rw [List.getElem?_toArray, List.getElem?_append_left (by simpa using hj')]
    simp [hj', enc, this]
  have hH : Holds enc w g 0 dl.toArray := fun j hj => by
    have hj' : j < dl.length := by simpa using hj
    rw [Nat.zero_add, getElem!_pos _ j hj]
    exact ⟨by simpa using hcell j hj', hB.frozen j⟩
  have h := Any.slices_SortFunc Tryz.sortRows enc (fun _ => rfl) cf (swo_of fun x : α => x.1.r) 91 #[] g 0 c dl.toArray w eg hcmp hH hB.lt (by rw [hlen]; omega)
  rw [hlen] at h
  change Calls Tryz.prog 90 _ _ _ at h
  refine h.mono fun e w' ⟨he, d', q, os, hp, hs, hw⟩ => ⟨he, d'.toList.map (·.1), ?_, ?_, ?_, ?_⟩
  · have h1 := hp.2.2
    have e1 : d'.extract 0 ps.length = d' := by
      have : d'.size = ps.length := by rw [hp.1, hlen]
      rw [← this]; simp
    have e2 : dl.toArray.extract 0 ps.length = dl.toArray := by rw [← hlen]; simp
    rw [e1, e2] at h1
    have := h1.map (fun x : α => x.1)
    rwa [List.toList_toArray, hdl] at this
  · have hsz : d'.size = ps.length := by rw [hp.1, hlen]
    rw [List.pairwise_iff_getElem]
    intro i j hi hj hij
    have hi' : i < d'.size := by simpa using hi
    have hj' : j < d'.size := by simpa using hj
    have h1 := hs i j (Nat.zero_le _) hij (by omega)
    rw [getElem!_pos _ j hj', getElem!_pos _ i hi'] at h1
    simp only [ltOf, decide_eq_false_iff_not, cf] at h1
    have a1 := isCmp_keys.anti d'[i].1.r d'[j].1.r
    simp only [kpLe, List.getElem_map, Array.getElem_toList]
    omega
  · have hsz : d'.size = ps.length := by rw [hp.1, hlen]
    have hb := hB
    unfold Blk at hb
    have hlt := hB.lt
    rw [hw]
    unfold Blk
    simp only [sortWorld, grow, putRow, mapBlock, Sort.ahead]
    rw [Array.getElem?_append_left (by simpa using hlt), Array.getElem?_modify, if_pos rfl, hb]
    simp only [Option.map_some, onCells]
    congr 2
    apply Array.ext_getElem?
    intro k
    have hl1 : (ps.map KP.val).length = ps.length := List.length_map ..
    have hl2 : ((d'.toList.map (·.1)).map KP.val).length = ps.length := by simp [hsz]
    simp only [putCells, Array.getElem?_mapIdx, List.getElem?_toArray]
    by_cases hk : k < ps.length
    · have hk' : k < d'.size := by omega
      rw [List.getElem?_append_left (by omega), List.getElem?_append_left (by omega)]
      simp only [List.getElem?_map]
      have hk2 : k < d'.toList.length := by simpa using hk'
      rw [List.getElem?_eq_getElem hk, List.getElem?_eq_getElem hk2]
      simp only [Option.map_some, Nat.zero_le, true_and, Nat.zero_add, Nat.sub_zero]
      rw [if_pos hk', getElem!_pos _ k hk']
      simp [enc]
    · rw [List.getElem?_append_right (by omega), List.getElem?_append_right (by omega), hl1, hl2]
      have hk' : ¬ (0 ≤ k ∧ k < 0 + d'.size) := by omega
      simp only [if_neg hk']
      cases tl[k - ps.length]? <;> rfl
  · rw [hw]
    exact sort_chg w g 0 q d' os
end Go.Proofs.YtifloafhpeeepaaGreat

namespace Go.Proofs.YtifloafhpeeepaaGreat
open Go.RowKit

theorem chg_grown {w w' : World} {row : Option Nat} (hg : w.grownBy w' row) : Chg (fun g => row = some g) w w' :=
  ⟨hg.os, hg.tape, hg.output, hg.size, fun k hk hn => hg.block k hk (fun h => hn h.symm)⟩
/-- a key's block is none of a row of another kind -/
theorem OwnKey.grown {w w' : World} {B : Nat → Prop} {K : Value} {k : List UInt8} (h : OwnKey w B K k) {base : Nat} {e : TypeId} {s n : Nat} {v : Value} {xs : List Value} (ho : w.ownsRow base e s v n xs) (hne : 5 ≠ e) (hg : w.grownBy w' v.ownBlock) : OwnKey w' B K k := by
  refine h.keep (chg_grown hg) fun A m c he a ha hb => ?_
  rcases ho.2 with ⟨rfl, _⟩ | ⟨g, cap, cur, rfl, _, hh, _⟩
  · simp [Value.ownBlock] at hb
  · simp only [Value.ownBlock, Option.some.injEq] at hb
    exact h.ne (show Blk w g e cur from hh) hne A m c he a ha hb.symm
/-- the keys that are collected -/
structure KInv (w0 w : World) (ps : List KP) (A : Option Addr) (c : Nat) (ks : List (List UInt8)) : Prop where
  own : w.ownsRow w0.heap.size 88 1 (.slice A ps.length c) ps.length (ps.map KP.val)
  keys : ∀ p ∈ ps, OwnKey w (fun b => w0.heap.size ≤ b) p.val p.r
  eq : ps.map KP.r = ks
  ext : Ext w0 w
  isNil : ps = [] → A = none ∧ c = 0
theorem KInv.go {w0 w w' : World} {ps : List KP} {A : Option Addr} {c : Nat} {ks : List (List UInt8)} (h : KInv w0 w ps A c ks) (hw : Ext w w') : KInv w0 w' ps A c ks :=
  ⟨hid_keep h.own hw, fun p hp => (h.keys p hp).ext hw, h.eq, h.ext.trans hw, h.isNil⟩
theorem KInv.nil (w : World) : KInv w w [] none 0 [] := ⟨World.ownsRow_nil _ _ _ _, fun p hp => (by cases hp), rfl, Ext.refl w, fun _ => ⟨rfl, rfl⟩⟩
theorem KInv.snoc {w0 w w' : World} {ps : List KP} {A A' A9 : Option Addr} {c c' n9 c9 : Nat} {ks : List (List UInt8)} {k : List UInt8} (h : KInv w0 w ps A c ks) (hK : OwnKey w (fun b => w0.heap.size ≤ b) (.slice A9 n9 c9) k)
    (ho : w'.ownsRow w0.heap.size 88 1 (.slice A' (ps.length + 1) c') (ps.length + 1) (ps.map KP.val ++ [.slice A9 n9 c9])) (hg : w.grownBy w' (Value.slice A ps.length c).ownBlock) (hE : Ext w0 w') : KInv w0 w' (ps ++ [⟨A9, n9, c9, k⟩]) A' c' (ks ++ [k]) := by
  refine ⟨?_, fun p hp => ?_, by rw [List.map_append, h.eq]; rfl, hE, fun hx => (by simp at hx)⟩
  · rw [List.length_append, List.map_append]; exact ho
  · rcases List.mem_append.1 hp with hp | hp
    · exact (h.keys p hp).grown h.own (by decide) hg
    · obtain rfl := List.mem_singleton.1 hp
      exact hK.grown h.own (by decide) hg

theorem infoKs : (Tryz.prog.info? 88).map (fun i => (i.zero, i.size, i.bytes)) = some (some (.slice none 0 0), 1, 24) := by kernel_rfl
/-- what Keys gives back: all keys, sorted, in memory of their own -/
def KeysRet (w0 : World) (E : List (List UInt8 × Int)) (e : Ending) (w' : World) : Prop :=
  ∃ (ps : List KP) (A : Option Addr) (c : Nat), e = .returned (.slice A ps.length c) ∧ KInv w0 w' ps A c (ps.map KP.r) ∧ List.Perm (ps.map KP.r) (E.map (·.1)) ∧ ps.Pairwise kpLe
/-- the sort's contract at the keys that were collected -/
theorem sort_any {w0 w : World} {ps : List KP} {A : Option Addr} {c : Nat} {ks : List (List UInt8)} (h : KInv w0 w ps A c ks) (hn : ps.length ≤ 16777216) :
    Calls Tryz.prog 90 #[.slice A ps.length c, .func (.func 91) #[] #[]] w fun e w' => e = .returned (.tuple #[]) ∧
      ∃ ps' : List KP, ps'.Perm ps ∧ ps'.Pairwise kpLe ∧ KInv w0 w' ps' A c (ps'.map KP.r) ∧ ps'.length = ps.length := by
  cases ps with
  | nil =>
    obtain ⟨rfl, rfl⟩ := h.isNil rfl
    refine (sort_nil w _).mono fun e w' ⟨he, hw⟩ => ⟨he, [], .nil, .nil, ?_, rfl⟩
    subst hw
    have := h.eq
    rw [this]; exact h
  | cons p0 ps0 =>
    generalize hps : p0 :: ps0 = ps at *
    have h0 : 0 < ps.length := by rw [← hps]; simp
    rcases h.own.2 with ⟨_, h1⟩ | ⟨g, cap, cur, hv, hb, hg, hc1, hc2, hc3, hc4⟩
    · omega
    · injection hv with e1 e2 e3
      subst e1; subst e3
      rw [Nat.mul_one] at hc3 hc4
      have hcur : cur = (ps.map KP.val ++ cur.toList.drop ps.length).toArray := by
        apply Array.toList_inj.1
        rw [← hc4, List.take_append_drop]
      have hB : Blk w g 88 (ps.map KP.val ++ cur.toList.drop ps.length).toArray := by
        unfold Blk; rw [← hcur]; exact hg
      refine (sort_keys ps _ w g c hB (fun p hp => ?_) hn h0).mono fun e w' ⟨he, ps', hp, hs, hB', hC⟩ => ⟨he, ps', hp, hs, ?_, hp.length_eq⟩
      · have hk := h.keys p hp
        obtain ⟨A, n, c, r⟩ := p
        obtain ⟨A', n', c', e, ho, _⟩ := hk
        injection e with e1 e2 e3
        subst e1; subst e2; subst e3
        exact ⟨Sl.own ho, fun a ha => (h.keys _ hp).ne hB (by decide) _ _ _ rfl a ha⟩
      · have hl := hp.length_eq
        refine ⟨⟨by rw [List.length_map]; omega, .inr ⟨g, c, _, by rw [hl], hb, hB', by omega, hc2, ?_, ?_⟩⟩, fun p hp' => ?_, rfl, ?_, fun hx => ?_⟩
        · simp only [List.size_toArray, List.length_append, List.length_map, List.length_drop, Array.length_toList, Nat.mul_one]
          omega
        · rw [Nat.mul_one]
          have : (ps'.map KP.val).length = ps'.length := List.length_map ..
          rw [← this]; exact List.take_left
        · exact (h.keys p (hp.mem_iff.1 hp')).keep hC fun A n c e a ha => (h.keys p (hp.mem_iff.1 hp')).ne hB (by decide) A n c e a ha
        · exact hC.ext h.ext fun x hx => by subst hx; exact hb
        · subst hx; simp at hl; omega
set_option maxHeartbeats 1000000 in
set_option maxRecDepth 100000 in
theorem keys_any {w : World} {B : Nat → Prop} {x most probes : Nat} {E : List (List UInt8 × Int)} (h : HIx w B x most probes E) :
    Calls Tryz.prog 48 #[.pointer (some ⟨x, 0, none⟩)] w (KeysRet w E) := by
  obtain ⟨tb, T, Ks, hI, hG, hE, h1, h2, h3, hne⟩ := h.at_
  have a4 : w.cell? ⟨x, 4, none⟩ = some (.slice (some ⟨tb, 0, none⟩) T.length T.length) := hI.blk.cell 4
  have HI := hide hI
  have hm := h.most
  have hTl : T.length ≤ 4194400 := by omega
  have HK3 := hide h3; have HE := hide hE
  have HLE := hide (show ∀ i, (ents (T.take i)).length ≤ 4194400 from fun i => by
    have := ents_take_le T i
    have := hE.length_eq
    omega)
  obtain ⟨i0, hi0, hz0, hz1, hz2⟩ := info_parts infoKs
  clear h hI hG hE h1 h2 h3 hne
  go_enter Tryz.func48, Tryz.ntmps48
  go_wp2_with fail
  go_loopw [3, 11] (fun s3 s11 w' => ∃ (i : Nat) (ps : List KP) (A : Option Addr) (c : Nat), i ≤ T.length ∧ s3 = .slice A ps.length c ∧ s11 = .int .i64 i ∧ Hid (KInv w w' ps A c ((ents (T.take i)).map (·.1)))) (fun _ s11 _ => T.length - (intOf s11).toNat)
  case atStart => exact ⟨0, [], none, 0, by omega, rfl, rfl, KInv.nil w⟩
  case round =>
    obtain ⟨i, ps, A, c, hin, rfl, rfl, hK⟩ := hrel
    clear a4
    by_cases h : i < T.length
    · obtain ⟨p, hp⟩ : ∃ p, T[i]? = some p := ⟨_, List.getElem?_eq_getElem h⟩
      obtain ⟨A5, n5, c5, b0, b1, b2, hK5, _⟩ := (HI.out.ext hK.out.ext).tab.at_ hp
      have het := hide (ents_take hp)
      have hpk := HK3.out p (List.mem_of_getElem? hp)
      have HK5 := hide hK5
      obtain ⟨st, pk, pn⟩ := p
      dsimp only at b0 b1 b2 hpk
      clear hp hK5
      go_upto_region 5 with fail
      have HE5 := hide (Ext.alloc wr (.cells #[.int .u8 (st : Int), .slice A5 n5 c5, .int .i64 pn] 151))
      have HB5 := hide (Blk.new wr 151 #[.int .u8 (st : Int), .slice A5 n5 c5, .int .i64 pn])
      generalize wr.alloc (.cells #[.int .u8 (st : Int), .slice A5 n5 c5, .int .i64 pn] 151) = W5 at *
      clear b0 b1 b2
      have q0 : W5.cell? ⟨wr.heap.size, 0, none⟩ = some (.int .u8 (st : Int)) := HB5.out.cell 0
      by_cases h1 : st = 1
      · subst h1
        have q0 : W5.cell? ⟨wr.heap.size, 0, none⟩ = some (.int .u8 1) := q0
        have q1 : W5.cell? ⟨wr.heap.size, 1, none⟩ = some (.slice A5 n5 c5) := HB5.out.cell 1
        have HCL := hide (clone_key pk A5 n5 c5 W5 (HK5.out.ext HE5.out) (by have h9 := HK5.out.len; dsimp only at h9; omega))
        have hlen : ps.length ≤ 4194400 := by
          have h9 := congrArg List.length hK.out.eq
          rw [List.length_map, List.length_map] at h9
          have := HLE.out i
          omega
        have hen := hide (show ents (T.take (i + 1)) = ents (T.take i) ++ [(pk, pn)] from het.out)
        go_wp2_with fail
        refine HCL.out.mono ?_
        rintro e w6 ⟨K, rfl, x6, A9, n9, c9, rfl, o9, b9⟩
        have HK6 := hide (hK.out.go (HE5.out.trans (x6.trans (Ext.alloc w6 (.cells #[.slice A9 n9 c9] 88)))))
        have HO9 := hide (show OwnKey (w6.alloc (.cells #[.slice A9 n9 c9] 88)) (fun b => w.heap.size ≤ b) (.slice A9 n9 c9) pk from OwnKey.ext ⟨A9, n9, c9, rfl, o9, fun a ha => Nat.le_trans (hK.out.ext.trans HE5.out).size (b9 a ha).1⟩ (Ext.alloc _ _))
        have HNW := hide (Blk.new w6 88 #[.slice A9 n9 c9])
        clear o9 b9 x6 q0 q1
        go_wp2_with (at_builtin; refine wpList_append_sl rfl (.tmp 18) (.tmp 22) _ rfl 88 i0 _ 1 24 Tryz.underlying86 hi0 hz0 hz1 hz2 rfl (by omega) w HK6.out.ext _ ps.length (ps.map KP.val) rfl HK6.out.own _ 1 1 [.slice A9 n9 c9] rfl (HNW.out.sl (n := 1) (size := 1) rfl) (by intro v hv; obtain rfl := List.mem_singleton.1 hv; rfl) (by unfold maxLen; omega) (by omega) ?_; intro A7 c7 w7 o7 x7 g7 _)
        go_roundw
        case rel => exact ⟨i + 1, ps ++ [⟨A9, n9, c9, pk⟩], A7, c7, by omega, by rw [List.length_append]; rfl, by go_num, by rw [hen.out, List.map_append]; exact HK6.out.snoc HO9.out o7.out g7.out x7.out⟩
        case measure => simp [intOf]; omega
      · have h2 : ¬ ((st : Int) = 1) := by omega
        have hbq : ((st : Int) == 1) = false := by simpa using h2
        have hen := hide (show ents (T.take (i + 1)) = ents (T.take i) by rw [het.out, ent, if_neg h1]; simp)
        go_wp2_with fail
        go_roundw
        case rel => exact ⟨i + 1, ps, A, c, by omega, rfl, by go_num, by rw [hen.out]; exact hK.out.go HE5.out⟩
        case measure => simp [intOf]; omega
    · obtain rfl : i = T.length := by omega
      have hK2 := hK.out
      rw [List.take_length] at hK2
      have hlen : ps.length ≤ 4194400 := by
        have h9 := congrArg List.length hK2.eq
        rw [List.length_map, List.length_map] at h9
        have := HLE.out T.length
        rw [List.take_length] at this
        omega
      have HSO := hide (sort_any hK2 (by omega))
      have HPE := hide (show List.Perm (ps.map KP.r) (E.map (·.1)) by rw [hK2.eq]; exact HE.out.map _)
      clear hK2
      go_wp2_with fail
      refine HSO.out.mono ?_
      rintro e w5 ⟨rfl, ps', hp, hs, hk, hl⟩
      have HR := hide (show KeysRet w E (.returned (.slice A ps.length c)) w5 from ⟨ps', A, c, by rw [hl], hk, (hp.map _).trans HPE.out, hs⟩)
      clear hp hs hk hl
      go_wp2_with fail
      go_ret
      exact HR.out
end Go.Proofs.YtifloafhpeeepaaGreat
