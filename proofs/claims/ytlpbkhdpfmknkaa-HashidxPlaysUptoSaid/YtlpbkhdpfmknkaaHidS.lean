/-
  Keys sorted.
-/
import Derived.Test.YtlpbkhdpfmknkaaHidK
import Derived.Test.YtlpbkhdpfmknkaaOrd
import Derived.Lib.SliceRun
namespace Go.Proofs.Ytlpbkhdpfmknkaa
open Go.RowKit Go.Shelf Go.Lib Go.Sort

theorem isCmp_keys : IsCmp Lib.compareBytes := by
  have h : Lib.compareBytes = lexL cmpU := by
    funext a b; exact compareBytes_lex a b
  rw [h]; exact isCmp_u8.lex
theorem cmpK_self (a : List UInt8) : Lib.compareBytes a a = 0 := (isCmp_keys.eq a a).2 rfl
theorem cmpK_lt_trans {a b c : List UInt8} (h : Lib.compareBytes a b < 0) (k : Lib.compareBytes b c < 0) : Lib.compareBytes a c < 0 := by
  have h1 := isCmp_keys.trans a b c (by omega) (by omega)
  have h2 := isCmp_keys.range a c
  rcases h2 with h2 | h2 | h2
  · omega
  · have e := (isCmp_keys.eq a c).1 h2
    subst e
    have := isCmp_keys.anti a b
    omega
  · omega
theorem grow_self (W : World) : ∃ q os, W = grow (W.drewN q) os := by
  refine ⟨0, #[], ?_⟩
  obtain ⟨heap, tape, drawn, os, out⟩ := W
  simp [grow, World.drewN]
theorem sort_chg {α : Type} [Inhabited α] {enc : α → Value} (w : World) (blk off m : Nat) (dk : Array α) (os : Array Obj) : Chg (fun k => k = blk) w (sortWorld enc w blk off m dk os) := by
  refine ⟨rfl, rfl, rfl, ?_, fun k hk hn => ?_⟩
  · simp only [sortWorld, grow, putRow, mapBlock, Sort.ahead, Array.size_append, Array.size_modify]
    omega
  · simp only [sortWorld, grow, putRow, mapBlock, Sort.ahead]
    rw [Array.getElem?_append_left (by simpa using hk), Array.getElem?_modify, if_neg (by omega)]

/-- a key, and where it lies -/
structure KP where
  A : Option Addr
  n : Nat
  c : Nat
  r : List UInt8
def KP.val (p : KP) : Value := .slice p.A p.n p.c
def KP.ok (w : World) (g : Nat) (p : KP) : Prop := KeyAt w p.A p.n p.r ∧ ∀ a, p.A = some a → a.block ≠ g
theorem KP.ok.chg {w w' : World} {g : Nat} {p : KP} (h : p.ok w g) (hw : Chg (fun k => k = g) w w') : KeyAt w' p.A p.n p.r := hw.key h.1 h.2
def kpC (ps : List KP) : Array Value := (ps.map KP.val).toArray
def kpLe (a b : KP) : Prop := Lib.compareBytes a.r b.r ≤ 0

theorem swo_of {α : Type} (f : α → List UInt8) : SWO (ltOf fun x y : α => Lib.compareBytes (f x) (f y)) where
  irrefl x := by simp [ltOf, cmpK_self]
  trans x y z h1 h2 := by
    simp only [ltOf, decide_eq_true_iff] at *
    exact cmpK_lt_trans h1 h2
  ntrans x y z h1 h2 := by
    simp only [ltOf, decide_eq_false_iff_not] at *
    have a1 := isCmp_keys.anti (f x) (f y)
    have a2 := isCmp_keys.anti (f y) (f z)
    have a3 := isCmp_keys.anti (f x) (f z)
    have := isCmp_keys.trans (f z) (f y) (f x) (by omega) (by omega)
    omega

theorem sort_keys (ps : List KP) (tl : List Value) (w : World) (g c : Nat) (hB : Blk w g 30 (ps.map KP.val ++ tl).toArray) (hok : ∀ p ∈ ps, p.ok w g) (hn : ps.length ≤ 16777216) (h0 : 0 < ps.length) :
    Calls Try.prog 21 #[.slice (some ⟨g, 0, none⟩) ps.length c, .func (.func 22) #[] #[]] w fun e w' => e = .returned (.tuple #[]) ∧
      ∃ ps' : List KP, ps'.Perm ps ∧ ps'.Pairwise kpLe ∧ Blk w' g 30 (ps'.map KP.val ++ tl).toArray ∧ Chg (fun k => k = g) w w' := by
  let α := { p : KP // p.ok w g }
  haveI : Inhabited α := ⟨⟨ps[0], hok _ (List.getElem_mem h0)⟩⟩
  let dl : List α := ps.attach.map fun p => ⟨p.1, hok p.1 p.2⟩
  have hdl : dl.map (·.1) = ps := by simp [dl, List.map_map, Function.comp_def]
  have hlen : dl.toArray.size = ps.length := by simp [dl]
  let enc : α → Value := fun x => x.1.val
  let cf : α → α → Int := fun x y => Lib.compareBytes x.1.r y.1.r
  have eg : ∀ args w, (callFunc 22 args).run Try.prog w = .ok (.enter 22 args) w := enters_of Try.func22 (by kernel_rfl) rfl
  have hcmp : CmpLays1 Try.prog 22 #[] enc cf g 0 dl.toArray.size w := fun m os dk _ x y => by
    have h1 := sort_chg (enc := enc) w g 0 m dk os
    exact (cmp_keys (KP.ok.chg x.2 h1) (KP.ok.chg y.2 h1) x.1.c y.1.c).mono fun e w' ⟨he, hx⟩ => ⟨he, hx ▸ grow_self _⟩
  have hcell : ∀ j (hj : j < dl.length), w.cell? ⟨g, j, none⟩ = some (enc dl[j]) := fun j hj => by
    rw [hB.cell j]
    have hj' : j < ps.length := by simpa [dl] using hj
    have : dl[j].1 = ps[j] := by simp [dl]
    rw [List.getElem?_toArray, List.getElem?_append_left (by simpa using hj')]
    simp [hj', enc, this]
  have hH : Holds enc w g 0 dl.toArray := fun j hj => by
    have hj' : j < dl.length := by simpa using hj
    rw [Nat.zero_add, getElem!_pos _ j hj]
    exact ⟨by simpa using hcell j hj', hB.frozen j⟩
  have h := Any.slices_SortFunc Try.sortRows enc (fun _ => rfl) cf (swo_of fun x : α => x.1.r) 22 #[] g 0 c dl.toArray w eg hcmp hH hB.lt (by rw [hlen]; omega)
  rw [hlen] at h
  change Calls Try.prog 21 _ _ _ at h
  refine h.mono fun e w' ⟨he, d', q, os, hp, hs, hw⟩ => ⟨he, d'.toList.map (·.1), ?_, ?_, ?_, ?_⟩
  · have h1 := hp.2.2
    have e1 : d'.extract 0 ps.length = d' := by
      have : d'.size = ps.length := by rw [hp.1, hlen]
      rw [← this]; simp
    have e2 : dl.toArray.extract 0 ps.length = dl.toArray := by rw [← hlen]; simp
    rw [e1, e2] at h1
    have := h1.map (fun x : α => x.1)
    rwa [List.toList_toArray, hdl] at this
  · have hsz : d'.size = ps.length := by rw [hp.1, hlen]
    rw [List.pairwise_iff_getElem]
    intro i j hi hj hij
    have hi' : i < d'.size := by simpa using hi
    have hj' : j < d'.size := by simpa using hj
    have h1 := hs i j (Nat.zero_le _) hij (by omega)
    rw [getElem!_pos _ j hj', getElem!_pos _ i hi'] at h1
    simp only [ltOf, decide_eq_false_iff_not, cf] at h1
    have a1 := isCmp_keys.anti d'[i].1.r d'[j].1.r
    simp only [kpLe, List.getElem_map, Array.getElem_toList]
    omega
  · have hsz : d'.size = ps.length := by rw [hp.1, hlen]
    have hb := hB
    unfold Blk at hb
    have hlt := hB.lt
    rw [hw]
    unfold Blk
    simp only [sortWorld, grow, putRow, mapBlock, Sort.ahead]
    rw [Array.getElem?_append_left (by simpa using hlt), Array.getElem?_modify, if_pos rfl, hb]
    simp only [Option.map_some, onCells]
    congr 2
    apply Array.ext_getElem?
    intro k
    have hl1 : (ps.map KP.val).length = ps.length := List.length_map ..
    have hl2 : ((d'.toList.map (·.1)).map KP.val).length = ps.length := by simp [hsz]
    simp only [putCells, Array.getElem?_mapIdx, List.getElem?_toArray]
    by_cases hk : k < ps.length
    · have hk' : k < d'.size := by omega
      rw [List.getElem?_append_left (by omega), List.getElem?_append_left (by omega)]
      simp only [List.getElem?_map]
      have hk2 : k < d'.toList.length := by simpa using hk'
      rw [List.getElem?_eq_getElem hk, List.getElem?_eq_getElem hk2]
      simp only [Option.map_some, Nat.zero_le, true_and, Nat.zero_add, Nat.sub_zero]
      rw [if_pos hk', getElem!_pos _ k hk']
      simp [enc]
    · rw [List.getElem?_append_right (by omega), List.getElem?_append_right (by omega), hl1, hl2]
      have hk' : ¬ (0 ≤ k ∧ k < 0 + d'.size) := by omega
      simp only [if_neg hk']
      cases tl[k - ps.length]? <;> rfl
  · rw [hw]
    exact sort_chg w g 0 q d' os
end Go.Proofs.Ytlpbkhdpfmknkaa
