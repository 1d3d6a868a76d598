/-
  The rows' order, as plain Lean: a total order; a row comes ahead of all that go on from it.
  Arrange, as plain data: the one rising list of the rows of a list.
  The machinery of XExt at the stronger relation.
  
  The rows sorted.
  slices.CompactFunc at rows: of neighbours that are one, the first stays.
  row.Arrange: the one rising list of these rows, each row in memory of its own.
-/
import Derived.Test.YtpfjkjmimmklcaaGround
import Derived.Test.YtpfjkjmimmklcaaCmpG
import Derived.Test.YtpfjkjmimmklcaaSort
import Derived.Lib.SliceRun
import Derived.IntWalk
import Derived.Test.YtpfjkjmimmklcaaRowsG
namespace Go.Proofs.Ytpfjkjmimmklcaa

structure IsCmp {α : Type} (c : α → α → Int) : Prop where
  range : ∀ a b, c a b = -1 ∨ c a b = 0 ∨ c a b = 1
  anti : ∀ a b, c b a = - c a b
  eq : ∀ a b, c a b = 0 ↔ a = b
  trans : ∀ a b d, c a b ≤ 0 → c b d ≤ 0 → c a d ≤ 0

theorem isCmp_int : IsCmp cmpI where
  range a b := by unfold cmpI; split <;> (try split) <;> omega
  anti a b := by unfold cmpI; split <;> split <;> (try split) <;> omega
  eq a b := by unfold cmpI; split <;> (try split) <;> omega
  trans a b d := by
    unfold cmpI
    by_cases h1 : a < b <;> by_cases h2 : b < a <;> by_cases h3 : b < d <;> by_cases h4 : d < b <;> by_cases h5 : a < d <;> by_cases h6 : d < a <;> simp [h1, h2, h3, h4, h5, h6] <;> omega

section
variable {α β γ : Type}
theorem IsCmp.pull {c : β → β → Int} (h : IsCmp c) (f : α → β) (hf : ∀ a b, f a = f b → a = b) : IsCmp fun a b => c (f a) (f b) where
  range a b := h.range _ _
  anti a b := h.anti _ _
  eq a b := (h.eq _ _).trans ⟨hf a b, fun e => by rw [e]⟩
  trans a b d := h.trans _ _ _

theorem IsCmp.pair {c : β → β → Int} {d : γ → γ → Int} (hc : IsCmp c) (hd : IsCmp d) (f : α → β) (g : α → γ) (hfg : ∀ a b, f a = f b → g a = g b → a = b) :
    IsCmp fun a b => if c (f a) (f b) = 0 then d (g a) (g b) else c (f a) (f b) where
  range a b := by
    have h1 := hc.range (f a) (f b)
    have h2 := hd.range (g a) (g b)
    split <;> assumption
  anti a b := by
    have h1 := hc.anti (f a) (f b)
    have h2 := hd.anti (g a) (g b)
    split <;> split <;> omega
  eq a b := by
    split
    · rename_i h
      rw [hd.eq]
      exact ⟨hfg a b ((hc.eq _ _).1 h), fun e => by rw [e]⟩
    · rename_i h
      exact ⟨fun h' => absurd h' h, fun e => absurd ((hc.eq _ _).2 (by rw [e])) h⟩
  trans a b e := by
    have h1 := hc.trans (f a) (f b) (f e)
    have h2 := hd.trans (g a) (g b) (g e)
    have h3 := hc.trans (f b) (f e) (f a)
    have h4 := hc.trans (f e) (f a) (f b)
    have a1 := hc.anti (f a) (f b)
    have a2 := hc.anti (f b) (f e)
    have a3 := hc.anti (f a) (f e)
    split <;> split <;> split <;> omega

def lexL (c : α → α → Int) : List α → List α → Int
  | [], [] => 0
  | [], _ :: _ => -1
  | _ :: _, [] => 1
  | a :: l, b :: m => if c a b = 0 then lexL c l m else c a b

theorem IsCmp.lex {c : α → α → Int} (h : IsCmp c) : IsCmp (lexL c) where
  range a := by
    induction a with
    | nil => intro b; cases b <;> simp [lexL]
    | cons x l ih =>
      intro b
      cases b with
      | nil => simp [lexL]
      | cons y m =>
        have := h.range x y
        simp only [lexL]
        split
        · exact ih m
        · exact this
  anti a := by
    induction a with
    | nil => intro b; cases b <;> simp [lexL]
    | cons x l ih =>
      intro b
      cases b with
      | nil => simp [lexL]
      | cons y m =>
        have h1 := h.anti x y
        have h2 := ih m
        simp only [lexL]
        split <;> split <;> omega
  eq a := by
    induction a with
    | nil => intro b; cases b <;> simp [lexL]
    | cons x l ih =>
      intro b
      cases b with
      | nil => simp [lexL]
      | cons y m =>
        simp only [lexL, List.cons.injEq]
        split
        · rename_i hc
          rw [ih m]
          exact ⟨fun e => ⟨(h.eq _ _).1 hc, e⟩, fun e => e.2⟩
        · rename_i hc
          exact ⟨fun h' => absurd h' hc, fun e => absurd ((h.eq _ _).2 e.1) hc⟩
  trans a := by
    induction a with
    | nil => intro b d _ _; cases d <;> simp [lexL]
    | cons x l ih =>
      intro b d
      cases b with
      | nil => simp [lexL]
      | cons y m =>
        cases d with
        | nil => simp [lexL]
        | cons z n =>
          have h1 := h.trans x y z
          have h2 := ih m n
          have h3 := h.trans y z x
          have h4 := h.trans z x y
          have a1 := h.anti x y
          have a2 := h.anti y z
          have a3 := h.anti x z
          simp only [lexL]
          split <;> split <;> split <;> omega
end

def cmpU (a b : UInt8) : Int := cmpI a.toNat b.toNat
theorem isCmp_u8 : IsCmp cmpU := isCmp_int.pull (fun a : UInt8 => (a.toNat : Int)) fun a b h => UInt8.toNat_inj.1 (by omega)
theorem compareBytes_lex : ∀ a b : List UInt8, Lib.compareBytes a b = lexL cmpU a b
  | [], [] => rfl
  | [], _ :: _ => rfl
  | _ :: _, [] => rfl
  | x :: a, y :: b => by
    have h1 : (x < y) ↔ ((x.toNat : Int) < y.toNat) := by rw [UInt8.lt_iff_toNat_lt]; omega
    have h2 : (y < x) ↔ ((y.toNat : Int) < x.toNat) := by rw [UInt8.lt_iff_toNat_lt]; omega
    simp only [Lib.compareBytes, lexL, cmpU, cmpI, h1, h2, compareBytes_lex a b]
    split
    · simp
    · split <;> simp
theorem isCmp_bytes : IsCmp cmpB := by
  have h : cmpB = fun a b => lexL cmpU a.data.toList b.data.toList := by
    funext a b; exact compareBytes_lex _ _
  rw [h]
  refine (isCmp_u8.lex).pull (fun a : ByteArray => a.data.toList) fun a b h => ?_
  obtain ⟨a⟩ := a; obtain ⟨b⟩ := b
  exact congrArg ByteArray.mk (Array.toList_inj.1 h)
theorem isCmp_val : IsCmp cmpV := by
  have h : cmpV = fun a b => if cmpI a.k b.k = 0 then (if cmpI a.i b.i = 0 then cmpB a.t b.t else cmpI a.i b.i) else cmpI a.k b.k := by
    funext a b
    simp only [cmpV, orI]
    split
    · split
      · split
        · rename_i h; rw [h]
        · rfl
      · rfl
    · rfl
  rw [h]
  have h2 : IsCmp fun a b : Int × ByteArray => if cmpI a.1 b.1 = 0 then cmpB a.2 b.2 else cmpI a.1 b.1 :=
    isCmp_int.pair isCmp_bytes (·.1) (·.2) fun a b h1 h2 => Prod.ext h1 h2
  exact isCmp_int.pair h2 (fun a : V => a.k) (fun a : V => (a.i, a.t)) fun a b h1 h2 => by
    obtain ⟨k, i, t⟩ := a; obtain ⟨k', i', t'⟩ := b
    simp at h1 h2
    simp [h1, h2]
theorem cmpR_lex : ∀ a b : List V, cmpR a b = lexL cmpV a b
  | [], [] => rfl
  | [], _ :: _ => rfl
  | _ :: _, [] => rfl
  | x :: a, y :: b => by simp only [cmpR, lexL, cmpR_lex a b]
theorem isCmp_row : IsCmp cmpR := by
  have h : cmpR = lexL cmpV := by funext a b; exact cmpR_lex a b
  rw [h]; exact isCmp_val.lex

theorem cmpR_longer : ∀ (a b : List V), b ≠ [] → cmpR a (a ++ b) = -1
  | [], [], h => absurd rfl h
  | [], _ :: _, _ => rfl
  | x :: a, b, h => by
    have h0 : cmpV x x = 0 := (isCmp_val.eq x x).2 rfl
    simp only [List.cons_append, cmpR, h0, if_true]
    exact cmpR_longer a b h
end Go.Proofs.Ytpfjkjmimmklcaa

namespace Go.Proofs.Ytpfjkjmimmklcaa
open Go.RowKit

theorem cmpR_self (a : List V) : cmpR a a = 0 := (isCmp_row.eq a a).2 rfl
theorem cmpR_lt_trans {a b c : List V} (h : cmpR a b < 0) (k : cmpR b c < 0) : cmpR a c < 0 := by
  have h1 := isCmp_row.trans a b c (by omega) (by omega)
  have h2 := isCmp_row.range a c
  rcases h2 with h2 | h2 | h2
  · omega
  · have e := (isCmp_row.eq a c).1 h2
    subst e
    have := isCmp_row.anti a b
    omega
  · omega
theorem cmpR_gt {a b : List V} (h : ¬ cmpR a b < 0) (hne : a ≠ b) : cmpR b a < 0 := by
  have h1 := isCmp_row.anti a b
  have h2 : cmpR a b ≠ 0 := fun e => hne ((isCmp_row.eq a b).1 e)
  omega
theorem cmpR_not {a b : List V} (h : cmpR a b < 0) : a ≠ b := fun e => by subst e; rw [cmpR_self] at h; omega
theorem cmpR_asymm {a b : List V} (h : cmpR a b < 0) : ¬ cmpR b a < 0 := by
  have := isCmp_row.anti a b
  omega

/-- it rises -/
def Rises (l : List (List V)) : Prop := l.Pairwise fun a b => cmpR a b < 0
/-- a rising list is given by its members -/
theorem rises_unique : ∀ {l m : List (List V)}, Rises l → Rises m → (∀ x, x ∈ l ↔ x ∈ m) → l = m
  | [], [], _, _, _ => rfl
  | [], y :: m, _, _, h => by have := (h y).2 (List.mem_cons_self ..); cases this
  | x :: l, [], _, _, h => by have := (h x).1 (List.mem_cons_self ..); cases this
  | x :: l, y :: m, hl, hm, h => by
    have l1 := List.pairwise_cons.1 hl
    have m1 := List.pairwise_cons.1 hm
    have e : x = y := by
      rcases List.mem_cons.1 ((h x).1 (List.mem_cons_self ..)) with e | hx
      · exact e
      · rcases List.mem_cons.1 ((h y).2 (List.mem_cons_self ..)) with e | hy
        · exact e.symm
        · exact absurd (l1.1 y hy) (cmpR_asymm (m1.1 x hx))
    subst e
    congr 1
    refine rises_unique l1.2 m1.2 fun z => ?_
    constructor
    · intro hz
      rcases List.mem_cons.1 ((h z).1 (List.mem_cons_of_mem _ hz)) with e | hz'
      · exact absurd e.symm (cmpR_not (l1.1 z hz))
      · exact hz'
    · intro hz
      rcases List.mem_cons.1 ((h z).2 (List.mem_cons_of_mem _ hz)) with e | hz'
      · exact absurd e.symm (cmpR_not (m1.1 z hz))
      · exact hz'

def insR (x : List V) : List (List V) → List (List V)
  | [] => [x]
  | y :: l => if cmpR x y < 0 then x :: y :: l else if cmpR x y = 0 then y :: l else y :: insR x l
/-- the rising list of these rows -/
def arrP (l : List (List V)) : List (List V) := l.foldr insR []
theorem mem_insR {x z : List V} : ∀ {l : List (List V)}, z ∈ insR x l ↔ z = x ∨ z ∈ l
  | [] => by simp [insR]
  | y :: l => by
    unfold insR
    split
    · simp
    · split
      · rename_i h
        have e := (isCmp_row.eq x y).1 h
        subst e
        simp
      · rw [List.mem_cons, mem_insR, List.mem_cons]
        constructor
        · rintro (h | h | h)
          · exact .inr (.inl h)
          · exact .inl h
          · exact .inr (.inr h)
        · rintro (h | h | h)
          · exact .inr (.inl h)
          · exact .inl h
          · exact .inr (.inr h)
theorem rises_insR {x : List V} : ∀ {l : List (List V)}, Rises l → Rises (insR x l)
  | [], _ => List.pairwise_singleton _ _
  | y :: l, h => by
    have h1 := List.pairwise_cons.1 h
    unfold insR
    split
    · rename_i hx
      refine List.pairwise_cons.2 ⟨fun z hz => ?_, h⟩
      rcases List.mem_cons.1 hz with rfl | hz
      · exact hx
      · exact cmpR_lt_trans hx (h1.1 z hz)
    · rename_i hx
      split
      · exact h
      · rename_i h0
        refine List.pairwise_cons.2 ⟨fun z hz => ?_, rises_insR h1.2⟩
        rcases mem_insR.1 hz with rfl | hz
        · exact cmpR_gt hx fun e => h0 ((isCmp_row.eq _ _).2 e)
        · exact h1.1 z hz
theorem rises_arr : ∀ l : List (List V), Rises (arrP l)
  | [] => .nil
  | _ :: l => rises_insR (rises_arr l)
theorem mem_arr {z : List V} : ∀ {l : List (List V)}, z ∈ arrP l ↔ z ∈ l
  | [] => by simp [arrP]
  | x :: l => by
    have ih := mem_arr (z := z) (l := l)
    rw [show arrP (x :: l) = insR x (arrP l) from rfl, mem_insR, ih, List.mem_cons]
theorem arr_eq {l m : List (List V)} (h : Rises l) (hm : ∀ x, x ∈ l ↔ x ∈ m) : l = arrP m :=
  rises_unique h (rises_arr m) fun x => (hm x).trans mem_arr.symm
theorem arr_len : ∀ l : List (List V), (arrP l).length ≤ l.length
  | [] => Nat.le_refl _
  | x :: l => by
    have ih := arr_len l
    have h : ∀ m : List (List V), (insR x m).length ≤ m.length + 1 := by
      intro m
      induction m with
      | nil => simp [insR]
      | cons y m ihm =>
        unfold insR
        split
        · simp
        · split
          · simp
          · simp only [List.length_cons]; omega
    have := h (arrP l)
    rw [show arrP (x :: l) = insR x (arrP l) from rfl, List.length_cons]
    omega

/-- of neighbours that are one, the first -/
def keepBy {α : Type} (q : α → α → Bool) (prev : α) : List α → List α
  | [] => []
  | x :: l => if q x prev then keepBy q x l else x :: keepBy q x l
def ddBy {α : Type} (q : α → α → Bool) : List α → List α
  | [] => []
  | x :: l => x :: keepBy q x l
theorem keepBy_snoc {α : Type} (q : α → α → Bool) : ∀ (l : List α) (prev y x : α), (l.getLast?.getD prev = y) → keepBy q prev (l ++ [x]) = keepBy q prev l ++ (if q x y then [] else [x])
  | [], prev, y, x, h => by
    obtain rfl : prev = y := by simpa using h
    simp only [List.nil_append, keepBy]
  | z :: l, prev, y, x, h => by
    have h2 : l.getLast?.getD z = y := by
      cases l with
      | nil => simpa using h
      | cons a l =>
        rw [List.getLast?_cons_cons] at h
        rw [List.getLast?_eq_some_getLast (List.cons_ne_nil _ _)] at h ⊢
        exact h
    have ih := keepBy_snoc q l z y x h2
    simp only [List.cons_append, keepBy, ih]
    split <;> simp
/-- step by step -/
theorem dd_next {α : Type} (q : α → α → Bool) {l : List α} {i : Nat} {x y : α} (hx : l[i + 1]? = some x) (hy : l[i]? = some y) : ddBy q (l.take (i + 2)) = ddBy q (l.take (i + 1)) ++ (if q x y then [] else [x]) := by
  have h1 : l.take (i + 2) = l.take (i + 1) ++ [x] := by rw [show i + 2 = (i + 1) + 1 from rfl, List.take_add_one, hx]; rfl
  have h2 : l.take (i + 1) = l.take i ++ [y] := by rw [List.take_add_one, hy]; rfl
  rw [h1]
  cases hl : l.take (i + 1) with
  | nil => rw [hl] at h2; simp at h2
  | cons z m =>
    have hlast : m.getLast?.getD z = y := by
      have : (z :: m).getLast? = some y := by rw [← hl, h2]; simp
      cases m with
      | nil => simpa using this
      | cons a m =>
        rw [List.getLast?_cons_cons] at this
        rw [this]; rfl
    show ddBy q (z :: (m ++ [x])) = _
    simp only [ddBy, List.cons_append, keepBy_snoc q m z y x hlast]
theorem dd_one {α : Type} (q : α → α → Bool) {l : List α} {x : α} (hx : l[0]? = some x) : ddBy q (l.take 1) = [x] := by
  cases l with
  | nil => simp at hx
  | cons z m =>
    obtain rfl : z = x := by simpa using hx
    rfl
theorem dd_len {α : Type} (q : α → α → Bool) : ∀ l : List α, (ddBy q l).length ≤ l.length
  | [] => Nat.le_refl _
  | x :: l => by
    have : ∀ (m : List α) (p : α), (keepBy q p m).length ≤ m.length := by
      intro m
      induction m with
      | nil => intro p; exact Nat.le_refl _
      | cons y m ih =>
        intro p
        unfold keepBy
        have := ih y
        split
        · simp only [List.length_cons]; omega
        · simp only [List.length_cons]; omega
    simp only [ddBy, List.length_cons]
    have := this l x
    omega
theorem dd_sub {α : Type} (q : α → α → Bool) : ∀ l : List α, ∀ x ∈ ddBy q l, x ∈ l
  | [], x, h => h
  | y :: l, x, h => by
    have : ∀ (m : List α) (p : α), ∀ x ∈ keepBy q p m, x ∈ m := by
      intro m
      induction m with
      | nil => intro p x h; exact h
      | cons z m ih =>
        intro p x h
        unfold keepBy at h
        split at h
        · exact List.mem_cons_of_mem _ (ih z x h)
        · rcases List.mem_cons.1 h with rfl | h
          · exact List.mem_cons_self ..
          · exact List.mem_cons_of_mem _ (ih z x h)
    rcases List.mem_cons.1 h with rfl | h
    · exact List.mem_cons_self ..
    · exact List.mem_cons_of_mem _ (this l y x h)
/-- a sorted list without doubled neighbours rises, and has the same rows -/
theorem dd_rises {α : Type} (f : α → List V) (q : α → α → Bool) (hq : ∀ x y, q x y = true ↔ f x = f y) : ∀ l : List α, l.Pairwise (fun a b => cmpR (f a) (f b) ≤ 0) → Rises ((ddBy q l).map f) ∧ ∀ z, z ∈ (ddBy q l).map f ↔ z ∈ l.map f := by
  have key : ∀ (l : List α) (p : α), (∀ y ∈ l, cmpR (f p) (f y) ≤ 0) → l.Pairwise (fun a b => cmpR (f a) (f b) ≤ 0) → Rises (f p :: (keepBy q p l).map f) ∧ ∀ z, z ∈ f p :: (keepBy q p l).map f ↔ z ∈ f p :: l.map f := by
    intro l
    induction l with
    | nil => intro p _ _; exact ⟨List.pairwise_singleton _ _, fun z => Iff.rfl⟩
    | cons x l ih =>
      intro p hp hl
      have h1 := List.pairwise_cons.1 hl
      obtain ⟨i1, i2⟩ := ih x h1.1 h1.2
      unfold keepBy
      split
      · rename_i hqx
        have e := (hq x p).1 hqx
        rw [← e]
        refine ⟨i1, fun z => ?_⟩
        rw [i2 z]
        simp [List.map_cons]
      · rename_i hqx
        have hne : f x ≠ f p := fun e => hqx ((hq x p).2 e)
        have hlt : cmpR (f p) (f x) < 0 := by
          have a1 := hp x (List.mem_cons_self ..)
          have a2 : cmpR (f p) (f x) ≠ 0 := fun e => hne ((isCmp_row.eq _ _).1 e).symm
          omega
        refine ⟨List.pairwise_cons.2 ⟨fun z hz => ?_, i1⟩, fun z => ?_⟩
        · rw [List.map_cons] at hz
          rcases List.mem_cons.1 hz with rfl | hz
          · exact hlt
          · exact cmpR_lt_trans hlt ((List.pairwise_cons.1 i1).1 z hz)
        · rw [List.map_cons, List.mem_cons, i2 z, List.map_cons, List.mem_cons (a := z) (b := f p)]
  intro l
  cases l with
  | nil => intro _; exact ⟨.nil, fun z => Iff.rfl⟩
  | cons x l =>
    intro h
    have h1 := List.pairwise_cons.1 h
    exact key l x h1.1 h1.2
end Go.Proofs.Ytpfjkjmimmklcaa

namespace Go.Proofs.Ytpfjkjmimmklcaa.D
open Go.RowKit

/-- 'Ext', and the count of draws does not fall -/
def Ext (w w' : World) : Prop := Go.Proofs.Ytpfjkjmimmklcaa.Ext w w' ∧ w.drawn ≤ w'.drawn
instance {w w' : World} : Coe (Ext w w') (Go.Proofs.Ytpfjkjmimmklcaa.Ext w w') := ⟨fun h => h.1⟩
theorem Ext.refl (w : World) : Ext w w := ⟨Go.Proofs.Ytpfjkjmimmklcaa.Ext.refl w, Nat.le_refl _⟩
theorem Ext.size {w w' : World} (h : Ext w w') : w.heap.size ≤ w'.heap.size := h.1.size
theorem Ext.trans {a b c : World} (h : Ext a b) (k : Ext b c) : Ext a c := ⟨h.1.trans k.1, Nat.le_trans h.2 k.2⟩
theorem Ext.drew (w : World) : Ext w w.drew := ⟨Go.Proofs.Ytpfjkjmimmklcaa.Ext.drew w, Nat.le_succ _⟩
theorem Ext.drew' {a w : World} (h : Ext a w) : Ext a w.drew := ⟨h.1.drew', Nat.le_succ_of_le h.2⟩
theorem Ext.alloc (w : World) (o : Obj) : Ext w (w.alloc o) := ⟨Go.Proofs.Ytpfjkjmimmklcaa.Ext.alloc w o, Nat.le_refl _⟩
theorem Ext.alloc' {a w : World} (h : Ext a w) (o : Obj) : Ext a (w.alloc o) := ⟨h.1.alloc' o, h.2⟩
theorem Ext.setCell {a w : World} (h : Ext a w) {p : Addr} (hp : a.heap.size ≤ p.block) (u : Value) : Ext a (w.setCell p u) := ⟨h.1.setCell hp u, h.2⟩
theorem Ext.cell {w w' : World} (h : Ext w w') {p : Addr} {v : Value} (hp : w.cell? p = some v) : w'.cell? p = some v := h.1.cell hp
theorem Ext.frozen {w w' : World} (h : Ext w w') {p : Addr} (hp : p.block < w.heap.size) : w'.frozen? p = w.frozen? p := h.1.frozen hp
theorem Ext.block {w w' : World} (h : Ext w w') {k : Nat} (hk : k < w.heap.size) : w'.heap[k]? = w.heap[k]? := h.1.block hk

inductive AV where
  | k (v : Value)
  | p (F : Value → World → Prop)
def AV.sat : AV → Value → World → Prop
  | .k v, u, _ => u = v
  | .p F, u, w => F u w
def AV.Stable (w0 : World) (x : AV) : Prop := ∀ u w w', Ext w0 w → Ext w w' → x.sat u w → x.sat u w'
theorem AV.stable_k (w0 : World) (v : Value) : (AV.k v).Stable w0 := fun _ _ _ _ _ h => h

def eUpon (P : Program) (w : World) (x : AV) : Result Next → Prop
  | .ok (.value v) w' => Ext w w' ∧ x.sat v w'
  | .ok .skip w' => Ext w w' ∧ x.sat undef w'
  | .ok (.enter f args) w' => Ext w w' ∧ Calls P f args w' fun e w'' => ∃ v, e = .returned v ∧ Ext w' w'' ∧ x.sat v w''
  | _ => False

section
variable {P : Program} {ops : Array Oper} {md : Region.Mode} {w0 : World} {n : Nat} {ds : List Deferred}

def EStep (P : Program) (ops : Array Oper) (w0 : World) (S : Tmp → AV) (o : Oper) (x : AV) : Prop :=
  x.Stable w0 ∧ ∀ (a : Act) (w : World), Ext w0 w → (∀ t ∈ o.looksAt ops, (S t).sat (a.tmps.getD t undef) w) →
    if Region.wanted o (yielded ops a.tmps) then eUpon P w x ((execOp a.eval o).run P w) else x.sat undef w

def sput (S : Tmp → AV) (d : Option Tmp) (x : AV) : Tmp → AV := fun t => if d = some t then x else S t
theorem sput_ne {S : Tmp → AV} {d : Option Tmp} {x : AV} {t : Tmp} (h : d ≠ some t) : sput S d x t = S t := by simp [sput, h]
theorem sput_comm (S : Tmp → AV) {d e : Option Tmp} (x y : AV) (h : ∀ t, d = some t → e ≠ some t) : sput (sput S d x) e y = sput (sput S e y) d x := by
  funext t
  unfold sput
  by_cases h1 : d = some t <;> by_cases h2 : e = some t <;> simp [h1, h2]
  exact absurd h2 (h t h1)

theorem EStep.put {S : Tmp → AV} {o : Oper} {x y : AV} {d : Option Tmp} (h : ∀ t, d = some t → t ∉ o.looksAt ops) (hs : EStep P ops w0 (sput S d y) o x) : EStep P ops w0 S o x :=
  ⟨hs.1, fun a w hw ht => hs.2 a w hw fun t hm => by rw [sput_ne (fun e => h t e hm)]; exact ht t hm⟩
theorem EStep.unput {S : Tmp → AV} {o : Oper} {x y : AV} {d : Option Tmp} (h : ∀ t, d = some t → t ∉ o.looksAt ops) (hs : EStep P ops w0 S o x) : EStep P ops w0 (sput S d y) o x :=
  ⟨hs.1, fun a w hw ht => hs.2 a w hw fun t hm => by have := ht t hm; rw [sput_ne (fun e => h t e hm)] at this; exact this⟩

def eOp (P : Program) (ops : Array Oper) (w0 : World) (i : Nat) (K : (Tmp → AV) → Prop) (S : Tmp → AV) : Prop :=
  match ops[i]? with
  | none => K S
  | some o => ∃ x, EStep P ops w0 S o x ∧ K (sput S o.dst x)
theorem eOp_mono {i : Nat} {S : Tmp → AV} {K K' : (Tmp → AV) → Prop} (h : ∀ S, K S → K' S) (hh : eOp P ops w0 i K S) : eOp P ops w0 i K' S := by
  unfold eOp at *
  split
  · exact h _ (by simpa [*] using hh)
  · rename_i o ho
    simp only [ho] at hh
    obtain ⟨x, h1, h2⟩ := hh
    exact ⟨x, h1, h _ h2⟩

def wpAnyE (P : Program) (md : Region.Mode) (ops : Array Oper) (w0 : World) (n : Nat) (L : Array Bool → (Tmp → AV) → Prop) : Nat → Array Bool → (Tmp → AV) → Prop
  | 0, listed, S => L listed S
  | f + 1, listed, S => Region.ready md ops listed ≠ [] ∧ ∀ i ∈ Region.ready md ops listed, i < n ∧ eOp P ops w0 i (wpAnyE P md ops w0 n L f (listed.setIfInBounds i true)) S

/-- the frame a is one of those that S speaks of -/
def Fits (S : Tmp → AV) (m : Nat) (ds : List Deferred) (a : Act) (w : World) : Prop :=
  a.tmps.size = m ∧ a.defers = ds ∧ ∀ t, t < m → (S t).sat (a.tmps.getD t undef) w
def dstsIn (ops : Array Oper) (m : Nat) : Bool := ops.all fun o => (o.dst.all (· < m)) && (o.looksAt ops).all (· < m)

theorem Fits.put {S : Tmp → AV} {m : Nat} {a : Act} {w w' : World} (h : Fits S m ds a w) (hS : ∀ t, (S t).Stable w0) (h0 : Ext w0 w) (hw : Ext w w') {d : Option Tmp} {v : Value} {x : AV} (hx : x.sat v w') :
    Fits (sput S d x) m ds (a.put d v) w' := by
  obtain ⟨h1, h2, h3⟩ := h
  cases d with
  | none => exact ⟨h1, h2, fun t ht => by rw [sput_ne (by simp)]; exact hS t _ _ _ h0 hw (h3 t ht)⟩
  | some d =>
    refine ⟨by simp [Act.put, h1], h2, fun t ht => ?_⟩
    by_cases he : d = t
    · subst he
      have : (a.tmps.setIfInBounds d v).getD d undef = v := by simp [h1, ht]
      simp only [sput, Act.put, this]
      simpa using hx
    · rw [sput_ne (by simpa using he)]
      have : (a.tmps.setIfInBounds d v).getD t undef = a.tmps.getD t undef := by
        simp [Array.getElem?_setIfInBounds_ne he]
      simp only [Act.put, this]
      exact hS t _ _ _ h0 hw (h3 t ht)

theorem wpAny_of_ext {m g : Nat} {L : Array Bool → (Tmp → AV) → Prop} {Q' : Exit → Act → World → Prop} (hd : dstsIn ops m = true)
    (hL : ∀ listed S, L listed S → ∀ a w, Ext w0 w → Fits S m ds a w → wpAny P md ops Q' g listed a w) :
    ∀ (f : Nat) (listed : Array Bool) (S : Tmp → AV), (∀ t, (S t).Stable w0) → wpAnyE P md ops w0 n L f listed S → ∀ a w, Ext w0 w → Fits S m ds a w → wpAny P md ops Q' (f + g) listed a w
  | 0, listed, S, _, h => fun a w hw ha => by rw [Nat.zero_add]; exact hL _ _ h a w hw ha
  | f + 1, listed, S, hS, h => fun a w hw ha => by
    rw [show f + 1 + g = (f + g) + 1 by omega]
    refine ⟨fun h0 => absurd h0 h.1, fun i hi => ?_⟩
    have h2 := (h.2 i hi).2
    unfold eOp at h2
    unfold wpOp
    cases ho : ops[i]? with
    | none => simp only [ho] at h2 ⊢; exact wpAny_of_ext hd hL f _ S hS h2 a w hw ha
    | some o =>
      simp only [ho] at h2 ⊢
      obtain ⟨x, ⟨hst, hx⟩, hK⟩ := h2
      have hin : (o.dst.all (· < m)) = true ∧ (o.looksAt ops).all (· < m) = true := by
        have := Array.all_eq_true_iff_forall_mem.1 hd o (Array.mem_of_getElem? ho)
        simpa using this
      have h3 := hx a w hw fun t ht => ha.2.2 t (by have := List.all_eq_true.1 hin.2 t ht; simpa using this)
      have hS' : ∀ t, (sput S o.dst x t).Stable w0 := fun t => by
        unfold sput
        split
        · exact hst
        · exact hS t
      have go : ∀ v w', Ext w w' → x.sat v w' → wpAny P md ops Q' (f + g) (listed.setIfInBounds i true) (a.put o.dst v) w' := fun v w' hw' hv =>
        wpAny_of_ext hd hL f _ _ hS' hK _ _ (hw.trans hw') (ha.put hS hw hw' hv)
      split
      · rename_i hwant
        simp only [hwant, if_true] at h3
        refine .inl ?_
        unfold Oper.wp
        generalize (execOp a.eval o).run P w = r at h3 ⊢
        cases r with
        | ok nx w' =>
          cases nx <;> simp only [eUpon] at h3 <;> simp only [Oper.upon]
          case value u => exact go _ _ h3.1 h3.2
          case skip => exact go _ _ h3.1 h3.2
          case enter fn args => exact h3.2.mono fun e w'' ⟨v, he, hw'', hv⟩ => by subst he; exact go _ _ (h3.1.trans hw'') hv
        | halt x w' => simp only [eUpon] at h3
      · rename_i hwant
        simp only [hwant, Bool.false_eq_true, if_false] at h3
        exact go _ _ (Ext.refl _) h3

theorem eOp_put {j : Nat} {oi oj : Oper} {x : AV} (hj : ops[j]? = some oj) (hap : oi.apart ops oj = true) {K : (Tmp → AV) → Prop} {S : Tmp → AV}
    (hy : EStep P ops w0 S oi x) (h : eOp P ops w0 j K (sput S oi.dst x)) : eOp P ops w0 j (fun S' => EStep P ops w0 S' oi x ∧ K (sput S' oi.dst x)) S := by
  obtain ⟨h1, h2, h3⟩ := Oper.apart_spec hap
  unfold eOp at *
  simp only [hj] at *
  obtain ⟨y, hy', hK⟩ := h
  exact ⟨y, hy'.put h1, hy.unput h3, by rw [← sput_comm S x y h2]; exact hK⟩

theorem wpAnyE_first {i : Nat} {oi : Oper} {x : AV} {L : Array Bool → (Tmp → AV) → Prop} (hi : ops[i]? = some oi) (hin : i < n)
    (hT : ∀ listed, HeadInv md ops n listed → listed.getD i true = false → ∀ t, n ≤ t → t ∉ Region.ready md ops listed)
    (hdone : ∀ listed S, L listed S → ∀ j ∈ Region.ready md ops listed, n ≤ j) :
    ∀ (f : Nat) (listed : Array Bool) (S : Tmp → AV), HeadInv md ops n listed →
      (∀ j oj, ops[j]? = some oj → j ≠ i → listed.getD j true = false → (∀ e ∈ oj.after, Region.binds md e = true → e.on ≠ i) → oi.apart ops oj = true) →
      i ∈ Region.ready md ops listed → EStep P ops w0 S oi x →
      wpAnyE P md ops w0 n L f (listed.setIfInBounds i true) (sput S oi.dst x) → wpAnyE P md ops w0 n L (f + 1) listed S := by
  have hself : ∀ {S : Tmp → AV} {K : (Tmp → AV) → Prop}, EStep P ops w0 S oi x → K (sput S oi.dst x) → eOp P ops w0 i K S := fun hy hK => by
    unfold eOp; simp only [hi]; exact ⟨x, hy, hK⟩
  intro f
  induction f with
  | zero =>
    intro listed S inv _ hr hy H
    have hun := (mem_ready.1 hr).1
    refine ⟨fun h => (by rw [h] at hr; cases hr), fun j hj => ?_⟩
    have hjn : j < n := by
      rcases Nat.lt_or_ge j n with h | h
      · exact h
      · exact absurd hj (hT listed inv hun j h)
    refine ⟨hjn, ?_⟩
    by_cases hji : j = i
    · subst hji; exact hself hy H
    · have := hdone _ _ H j (ready_mono hj hji)
      omega
  | succ f ih =>
    intro listed S inv hfree hr hy H
    have hun := (mem_ready.1 hr).1
    refine ⟨fun h => (by rw [h] at hr; cases hr), fun j hj => ?_⟩
    have hjn : j < n := by
      rcases Nat.lt_or_ge j n with h | h
      · exact h
      · exact absurd hj (hT listed inv hun j h)
    refine ⟨hjn, ?_⟩
    by_cases hji : j = i
    · subst hji; exact hself hy H
    · have h1 := (H.2 j (ready_mono hj hji)).2
      obtain ⟨hjun, oj, hoj, hall⟩ := mem_ready.1 hj
      have hnot : ∀ e ∈ oj.after, Region.binds md e = true → e.on ≠ i := fun e he hb heq => by
        have h1 := hall e he hb
        rw [heq, getD_both hun] at h1
        cases h1
      have h2 := eOp_put hoj (hfree j oj hoj hji hjun hnot) hy h1
      have hfree' : ∀ k ok, ops[k]? = some ok → k ≠ i → (listed.setIfInBounds j true).getD k true = false →
          (∀ e ∈ ok.after, Region.binds md e = true → e.on ≠ i) → oi.apart ops ok = true := fun k ok hk hki hun hno => by
        refine hfree k ok hk hki ?_ hno
        by_cases hjk : j = k
        · subst hjk; exact hjun
        · rw [getD_set_ne true hjk] at hun; exact hun
      refine eOp_mono (fun S' h3 => ih (listed.setIfInBounds j true) S' (inv.set hj hjn) hfree' (ready_mono hr (Ne.symm hji)) h3.1 ?_) h2
      rw [Array.setIfInBounds_comm _ _ hji]
      exact h3.2

/-- the walk in the text's order -/
def wpSem (P : Program) (ops : Array Oper) (w0 : World) (Q : (Tmp → AV) → Prop) : List Oper → (Tmp → AV) → Prop
  | [], S => Q S
  | o :: l, S => ∃ x, EStep P ops w0 S o x ∧ wpSem P ops w0 Q l (sput S o.dst x)

theorem wpAnyE_lex {g : Nat} {Lq : (Tmp → AV) → Prop} (hT : ∀ i, i < n → ∀ listed, HeadInv md ops n listed → listed.getD i true = false → ∀ t, n ≤ t → t ∉ Region.ready md ops listed) :
    ∀ (l : List Oper) (k : Nat) (listed : Array Bool) (S : Tmp → AV), (∀ j, j < l.length → l[j]? = ops[k + j]?) → k + l.length = n → HeadInv md ops n listed →
    Region.lexHead md ops g l.length k listed = true → wpSem P ops w0 Lq l S →
    wpAnyE P md ops w0 n (fun listed' S' => Region.seqB md ops g n listed' = true ∧ Lq S') l.length listed S
  | [], k, listed, S, _, hk, _, hB, h => by
    have : k = n := by simpa using hk
    subst this
    exact ⟨by simpa [Region.lexHead] using hB, h⟩
  | o :: l, k, listed, S, hl, hk, inv, hB, h => by
    have h0 : ops[k]? = some o := by simpa using (hl 0 (by simp)).symm
    simp only [List.length_cons, Region.lexHead, Bool.and_eq_true] at hB
    obtain ⟨⟨hr, hf⟩, hB'⟩ := hB
    have hkn : k < n := by simp only [List.length_cons] at hk; omega
    have hr' : k ∈ Region.ready md ops listed := by simpa using hr
    obtain ⟨x, hy, hK⟩ := h
    exact wpAnyE_first h0 hkn (hT k hkn) (fun listed' S' hL => seqB_ready hL.1) l.length listed S inv (Region.free_spec h0 hf) hr' hy
      (wpAnyE_lex hT l (k + 1) _ _ (fun j hj => by have := hl (j + 1) (by simp; omega); simpa [Nat.add_assoc, Nat.add_comm 1 j] using this) (by simp only [List.length_cons] at hk; omega) (inv.set hr' hkn) hB' hK)

def extB (ops : Array Oper) (n : Nat) : Bool :=
  decide (n ≤ ops.size) && (decide (n = ops.size) || Region.sinkB .any ops n && Region.chainB .any ops n) && Region.lexHead .any ops (ops.size - n) n 0 (Array.replicate ops.size false)

theorem wp_region_sem {id : Nat} {Q : Exit → Act → World → Prop} {a : Act} {w : World} {l : List Oper} (n : Nat) (S0 : Tmp → AV) (m : Nat) (hm : P.follows .mixedOrders = true) (hB : extB l.toArray n = true) (hd : dstsIn l.toArray m = true)
    (hS0 : ∀ t, (S0 t).Stable w) (hfit : Fits S0 m ds a w)
    (h : wpSem P l.toArray w (fun S => ∀ a' w', Ext w w' → Fits S m ds a' w' → wpList P l.toArray Q (l.drop n) a' w') (l.take n) S0) : (Code.region id l.toArray true).wp P Q a w := by
  simp only [extB, Bool.and_eq_true, decide_eq_true_eq] at hB
  obtain ⟨⟨hn, hsc⟩, hlex⟩ := hB
  have hn' : n ≤ l.length := by simpa using hn
  have htl : (l.take n).length = n := by simp; omega
  have hdl : (l.drop n).length = l.toArray.size - n := by simp
  have inv0 : HeadInv .any l.toArray n (Array.replicate l.toArray.size false) :=
    ⟨by simp, fun j oj _ hl => (by rw [getD_replicate_false] at hl; cases hl), fun t _ ht => getD_in (by simpa using ht) (getD_replicate_false _ _)⟩
  have hT : ∀ i, i < n → ∀ listed, HeadInv .any l.toArray n listed → listed.getD i true = false → ∀ t, n ≤ t → t ∉ Region.ready .any l.toArray listed := by
    intro i hi listed inv hun t ht hr
    simp only [Bool.or_eq_true, decide_eq_true_eq, Bool.and_eq_true] at hsc
    rcases hsc with hsc | hsc
    · obtain ⟨_, ot, hot, _⟩ := mem_ready.1 hr
      have htlt := (Array.getElem?_eq_some_iff.1 hot).1
      omega
    · by_cases hlt : n < l.toArray.size
      · exact tail_waits hsc.1 hsc.2 hlt inv _ i rfl hi hun t ht hr
      · obtain ⟨_, ot, hot, _⟩ := mem_ready.1 hr
        have htlt := (Array.getElem?_eq_some_iff.1 hot).1
        omega
  have H := wpAnyE_lex (md := .any) (g := l.toArray.size - n) hT (l.take n) 0 _ S0 (fun j hj => by
    have hj' : j < n := by rw [htl] at hj; exact hj
    simp [hj']) (by simpa using htl) inv0 (by rw [htl]; exact hlex) h
  refine wp_region_any hm ?_
  have hw1 : Ext w { w with drawn := w.drawn + 1 } := Ext.drew w
  have := wpAny_of_ext (w0 := w) (ds := ds) (Q' := Q) (g := l.toArray.size - n) hd (fun listed S hL a' w' hw' hf => by
    have := wpAny_of_seq (md := .any) (Q' := Q) (l.drop n) n listed a' w' (fun j => by simp [List.getElem?_drop]) (by rw [hdl]; exact hL.1) (hL.2 a' w' hw' hf)
    rwa [hdl] at this) _ _ S0 hS0 H a _ hw1 ⟨hfit.1, hfit.2.1, fun t ht => hS0 t _ _ _ (Ext.refl _) hw1 (hfit.2.2 t ht)⟩
  rw [htl, show n + (l.toArray.size - n) = l.toArray.size by omega] at this
  exact this

/-! the layer in which the walk goes: a frame written out, and a list of the slots of which only a property is known -/
abbrev Facts := List (Tmp × (Value → World → Prop))
def Facts.get (F : Facts) (t : Tmp) : Option (Value → World → Prop) := (F.find? (·.1 == t)).map (·.2)
def semOf (a : Act) (F : Facts) : Tmp → AV := fun t => match F.get t with | some G => .p G | none => .k (a.tmps.getD t undef)

def kUpon (P : Program) (w : World) (v : Value) : Result Next → Prop
  | .ok (.value u) w' => w' = w ∧ u = v
  | .ok .skip w' => w' = w ∧ v = undef
  | .ok (.enter f args) w' => w' = w ∧ Calls P f args w fun e w'' => e = .returned v ∧ Ext w w''
  | _ => False

attribute [go_sem] kUpon eUpon AV.sat

def wpE (P : Program) (ops : Array Oper) (w0 : World) (Q : Act → Facts → Prop) : List Oper → Act → Facts → Prop
  | [], a, F => Q a F
  | o :: l, a, F => ∃ x F' a', EStep P ops w0 (semOf a F) o x ∧ (∀ t, sput (semOf a F) o.dst x t = semOf a' F' t) ∧ a'.tmps.size = a.tmps.size ∧ a'.defers = a.defers ∧ wpE P ops w0 Q l a' F'

theorem wpE_nil {Q : Act → Facts → Prop} {a : Act} {F : Facts} (h : Q a F) : wpE P ops w0 Q [] a F := h

theorem wpSem_of_wpE {Q : Act → Facts → Prop} {Q' : (Tmp → AV) → Prop} {m : Nat} (hQ : ∀ a F, a.tmps.size = m → a.defers = ds → Q a F → Q' (semOf a F)) : ∀ (l : List Oper) (a : Act) (F : Facts), a.tmps.size = m → a.defers = ds → wpE P ops w0 Q l a F → wpSem P ops w0 Q' l (semOf a F)
  | [], a, F, h1, h2, h => hQ a F h1 h2 h
  | o :: l, a, F, h1, h2, ⟨x, F', a', hs, he, h3, h4, hr⟩ => ⟨x, hs, by rw [funext he]; exact wpSem_of_wpE hQ l a' F' (h3.trans h1) (h4.trans h2) hr⟩

theorem yielded_congr {t t' : Array Value} {g : Nat} (h : ∀ d, (ops[g]?).bind (·.dst) = some d → t.getD d undef = t'.getD d undef) : yielded ops t g = yielded ops t' g := by
  unfold yielded
  cases hd : (ops[g]?).bind (·.dst) with
  | none => rfl
  | some d =>
    have := h d hd
    simp only [Option.bind_some]
    rw [Array.getD_eq_getD_getElem?, Array.getD_eq_getD_getElem?] at this
    cases h1 : t[d]? <;> cases h2 : t'[d]? <;> simp [h1, h2] at this ⊢
    · subst this; simp [undef]
    · subst this; simp [undef]
    · subst this; rfl
theorem wanted_congr {a a' : Act} {o : Oper} (h : ∀ t ∈ o.looksAt ops, a.tmps.getD t undef = a'.tmps.getD t undef) : Region.wanted o (yielded ops a.tmps) = Region.wanted o (yielded ops a'.tmps) := by
  unfold Region.wanted
  cases hg : o.guard with
  | none => rfl
  | some gw =>
    obtain ⟨g, want⟩ := gw
    simp only []
    rw [yielded_congr (t' := a'.tmps) fun d hd => h d (by simp [Oper.looksAt, hg, hd])]
theorem execOp_looks {a a' : Act} {o : Oper} (hs : ∀ cs b, o.op ≠ .select cs b) (h : ∀ t ∈ o.looksAt ops, a.tmps.getD t undef = a'.tmps.getD t undef) : execOp a.eval o = execOp a'.eval o :=
  execOp_congr o hs fun x hx => by
    cases x with
    | tmp t => exact h t (by unfold Oper.looksAt; exact List.mem_append_left _ (List.mem_filterMap.2 ⟨.tmp t, by simpa using hx, rfl⟩))
    | _ => rfl

def noSel (o : Oper) : Bool := match o.op with | .select .. => false | _ => true
theorem noSel_spec {o : Oper} (h : noSel o = true) (cs : Array SelectCase) (b : Bool) : o.op ≠ .select cs b := by
  intro e; simp [noSel, e] at h

theorem semOf_none {a : Act} {F : Facts} {t : Tmp} (h : F.get t = none) : semOf a F t = .k (a.tmps.getD t undef) := by simp [semOf, h]
theorem semOf_some {a : Act} {F : Facts} {t : Tmp} {G : Value → World → Prop} (h : F.get t = some G) : semOf a F t = .p G := by simp [semOf, h]
theorem Facts.get_cons_self {F : Facts} {t : Tmp} {G : Value → World → Prop} : Facts.get ((t, G) :: F) t = some G := by simp [Facts.get]
theorem Facts.get_cons_ne {F : Facts} {t d : Tmp} {G : Value → World → Prop} (h : d ≠ t) : Facts.get ((d, G) :: F) t = F.get t := by simp [Facts.get, h]

/-- what the operation looks at is written out in the frame -/
def plainAt (ops : Array Oper) (o : Oper) (F : Facts) : Bool := noSel o && (o.looksAt ops).all fun t => F.all (·.1 != t)
theorem get_none_of_all {F : Facts} {t : Tmp} (h : F.all (·.1 != t) = true) : F.get t = none := by
  simp only [Facts.get, Option.map_eq_none_iff, List.find?_eq_none]
  intro x hx
  have := List.all_eq_true.1 h x hx
  simpa using this
theorem plainAt_spec {o : Oper} {F : Facts} (h : plainAt ops o F = true) : (∀ cs b, o.op ≠ .select cs b) ∧ ∀ t ∈ o.looksAt ops, F.get t = none := by
  simp only [plainAt, Bool.and_eq_true] at h
  exact ⟨fun cs b => noSel_spec h.1 cs b, fun t ht => get_none_of_all (by have := List.all_eq_true.1 h.2 t ht; simpa using this)⟩

theorem sput_known {a : Act} {F : Facts} {d : Option Tmp} {v : Value} (hd : d.all (fun t => F.all (·.1 != t)) = true) (hz : d.all (· < a.tmps.size) = true) (t : Tmp) : sput (semOf a F) d (.k v) t = semOf (a.put d v) F t := by
  cases d with
  | none => exact sput_ne (by simp)
  | some d =>
    by_cases h : d = t
    · subst h
      have h0 : F.get d = none := get_none_of_all (by simpa using hd)
      have hz' : d < a.tmps.size := by simpa using hz
      have e : ((a.put (some d) v).tmps.getD d undef) = v := by simp [Act.put, hz']
      rw [semOf_none h0, e]
      simp [sput]
    · rw [sput_ne (by simpa using h)]
      unfold semOf
      cases F.get t with
      | some G => rfl
      | none =>
        have e : ((a.put (some d) v).tmps.getD t undef) = a.tmps.getD t undef := by simp [Act.put, Array.getElem?_setIfInBounds_ne h]
        simp only [e]

/-- AN OPERATION WHOSE VALUE IS KNOWN; what it looks at is written out -/
theorem wpE_k {Q : Act → Facts → Prop} {o : Oper} {l : List Oper} {a : Act} {F : Facts} (hp : plainAt ops o F = true) (hd : o.dst.all (fun t => decide (t < a.tmps.size) && F.all (·.1 != t)) = true)
    (hv : ∃ v : Value, (∀ w, Ext w0 w → if Region.wanted o (yielded ops a.tmps) then kUpon P w v ((execOp a.eval o).run P w) else v = undef) ∧ ∀ K : Act → Facts → Prop, (∀ a F, wpE P ops w0 Q l a F → K a F) → K (a.put o.dst v) F) : wpE P ops w0 Q (o :: l) a F := by
  obtain ⟨v, h, hK⟩ := hv
  have hr := hK _ fun _ _ h => h
  obtain ⟨hs, hl⟩ := plainAt_spec hp
  have hd1 : o.dst.all (fun t => F.all (·.1 != t)) = true := by
    cases ho : o.dst with
    | none => rfl
    | some d => rw [ho] at hd; simp only [Option.all_some, Bool.and_eq_true] at hd ⊢; exact hd.2
  have hd2 : o.dst.all (· < a.tmps.size) = true := by
    cases ho : o.dst with
    | none => rfl
    | some d => rw [ho] at hd; simp only [Option.all_some, Bool.and_eq_true] at hd ⊢; exact hd.1
  refine ⟨.k v, F, a.put o.dst v, ⟨AV.stable_k _ _, fun a' w hw ht => ?_⟩, sput_known hd1 hd2, ?_, ?_, hr⟩
  · have hag : ∀ t ∈ o.looksAt ops, a'.tmps.getD t undef = a.tmps.getD t undef := fun t hm => by
      have := ht t hm
      rw [semOf_none (hl t hm)] at this
      exact this
    rw [wanted_congr hag, execOp_looks hs hag]
    have h1 := h w hw
    split
    · rename_i hwant
      simp only [hwant, if_true] at h1
      generalize (execOp a.eval o).run P w = r at h1 ⊢
      cases r with
      | ok nx w' =>
        cases nx <;> simp only [kUpon] at h1 <;> simp only [eUpon]
        case value u => obtain ⟨rfl, rfl⟩ := h1; exact ⟨Ext.refl _, rfl⟩
        case skip => obtain ⟨rfl, rfl⟩ := h1; exact ⟨Ext.refl _, rfl⟩
        case enter f args => obtain ⟨rfl, hc⟩ := h1; exact ⟨Ext.refl _, hc.mono fun e w'' ⟨he, hw''⟩ => ⟨v, he, hw'', rfl⟩⟩
      | halt x w' => simp only [kUpon] at h1
    · rename_i hwant
      simp only [hwant, Bool.false_eq_true, if_false] at h1
      exact h1.symm
  · cases ho : o.dst <;> simp [Act.put]
  · cases ho : o.dst <;> rfl

/-- the slots 'ts', of which only a property is known, are looked at by the operation -/
def LookQ (F : Facts) (w : World) : List Tmp → (Act → Prop) → Act → Prop
  | [], k, a => k a
  | t :: ts, k, a => ∀ u, (∀ G, F.get t = some G → G u w) → LookQ F w ts k (a.put (some t) u)
theorem LookQ_elim {F : Facts} {w : World} {a' : Act} : ∀ (ts : List Tmp) {k : Act → Prop} {a : Act}, LookQ F w ts k a → (∀ t ∈ ts, t < a.tmps.size) → (∀ t ∈ ts, ∀ G, F.get t = some G → G (a'.tmps.getD t undef) w) →
    ∃ b : Act, k b ∧ b.tmps.size = a.tmps.size ∧ ∀ t, b.tmps.getD t undef = if t ∈ ts then a'.tmps.getD t undef else a.tmps.getD t undef
  | [], k, a, h, _, _ => ⟨a, h, rfl, fun t => by simp⟩
  | t :: ts, k, a, h, hz, hG => by
    obtain ⟨b, hk, hs, hb⟩ := LookQ_elim ts (h _ (hG t (by simp))) (fun s hs => by simpa [Act.put] using hz s (by simp [hs])) (fun s hs => hG s (by simp [hs]))
    refine ⟨b, hk, by simpa [Act.put] using hs, fun s => ?_⟩
    rw [hb s]
    by_cases h1 : s ∈ ts
    · simp [h1]
    · by_cases h2 : s = t
      · subst h2
        have hz' : s < a.tmps.size := hz s (by simp)
        simp [h1, Act.put, hz']
      · simp [h1, h2, Act.put, Array.getElem?_setIfInBounds_ne (Ne.symm h2)]
def looksIn (ops : Array Oper) (o : Oper) (F : Facts) (ts : List Tmp) (m : Nat) : Bool := noSel o && ts.all (fun t => decide (t < m) && (o.looksAt ops).contains t) && (o.looksAt ops).all fun t => ts.contains t || F.all (·.1 != t)

/-- AN OPERATION OF WHOSE VALUE A PROPERTY IS KNOWN; 'ts': the slots that it looks at and of which only a property is known -/
theorem wpE_p {Q : Act → Facts → Prop} {o : Oper} {l : List Oper} {a : Act} {F : Facts} {d : Tmp} (ts : List Tmp) (G : Value → World → Prop) (hG : ∀ u w w', Ext w0 w → Ext w w' → G u w → G u w') (hdst : o.dst = some d)
    (hp : looksIn ops o F ts a.tmps.size = true)
    (h : ∀ w, Ext w0 w → LookQ F w ts (fun a => if Region.wanted o (yielded ops a.tmps) then eUpon P w (.p G) ((execOp a.eval o).run P w) else G undef w) a) (hr : wpE P ops w0 Q l a ((d, G) :: F)) : wpE P ops w0 Q (o :: l) a F := by
  simp only [looksIn, Bool.and_eq_true] at hp
  obtain ⟨⟨hs, hz⟩, hl⟩ := hp
  have hz' : ∀ t ∈ ts, t < a.tmps.size := fun t ht => by have := List.all_eq_true.1 hz t ht; simp at this; exact this.1
  have hin : ∀ t ∈ ts, t ∈ o.looksAt ops := fun t ht => by have := List.all_eq_true.1 hz t ht; simp at this; exact this.2
  refine ⟨.p G, (d, G) :: F, a, ⟨fun u w w' h1 h2 h3 => hG u w w' h1 h2 h3, fun a' w hw ht => ?_⟩, fun t => ?_, rfl, rfl, hr⟩
  · have hl' : ∀ t ∈ o.looksAt ops, t ∈ ts ∨ F.get t = none := fun t hm => by
      have := List.all_eq_true.1 hl t hm
      simp only [Bool.or_eq_true] at this
      rcases this with h1 | h1
      · exact .inl (by simpa using h1)
      · exact .inr (get_none_of_all h1)
    have hall : ∀ t ∈ ts, ∀ G', F.get t = some G' → G' (a'.tmps.getD t undef) w := fun t hts G' hG' => by
      have h1 := ht t (hin t hts)
      rw [semOf_some hG'] at h1
      exact h1
    obtain ⟨b, hb, _, hbt⟩ := LookQ_elim (a' := a') ts (h w hw) hz' hall
    have hag : ∀ t ∈ o.looksAt ops, a'.tmps.getD t undef = b.tmps.getD t undef := fun t hm => by
      rw [hbt t]
      by_cases h1 : t ∈ ts
      · simp [h1]
      · have h2 := (hl' t hm).resolve_left h1
        have := ht t hm
        rw [semOf_none h2] at this
        rw [if_neg h1]
        exact this
    rw [wanted_congr hag, execOp_looks (fun cs b => noSel_spec hs cs b) hag]
    exact hb
  · unfold sput
    rw [hdst]
    by_cases h1 : d = t
    · subst h1; simp [semOf_some Facts.get_cons_self]
    · simp only [Option.some.injEq, h1, if_false]
      unfold semOf
      rw [Facts.get_cons_ne h1]

/-- AN OPERATION WHOSE VALUE IS KNOWN, though it looks at slots of which only a property is known -/
theorem wpE_kp {Q : Act → Facts → Prop} {o : Oper} {l : List Oper} {a : Act} {F : Facts} (ts : List Tmp) (v : Value) (hp : looksIn ops o F ts a.tmps.size = true) (hd : o.dst.all (fun t => decide (t < a.tmps.size) && F.all (·.1 != t)) = true)
    (h : ∀ w, Ext w0 w → LookQ F w ts (fun a => if Region.wanted o (yielded ops a.tmps) then eUpon P w (.k v) ((execOp a.eval o).run P w) else undef = v) a) (hK : ∀ K : Act → Facts → Prop, (∀ a F, wpE P ops w0 Q l a F → K a F) → K (a.put o.dst v) F) : wpE P ops w0 Q (o :: l) a F := by
  have hr := hK _ fun _ _ h => h
  simp only [looksIn, Bool.and_eq_true] at hp
  obtain ⟨⟨hs, hz⟩, hl⟩ := hp
  have hz' : ∀ t ∈ ts, t < a.tmps.size := fun t ht => by have := List.all_eq_true.1 hz t ht; simp at this; exact this.1
  have hin : ∀ t ∈ ts, t ∈ o.looksAt ops := fun t ht => by have := List.all_eq_true.1 hz t ht; simp at this; exact this.2
  have hd1 : o.dst.all (fun t => F.all (·.1 != t)) = true := by
    cases ho : o.dst with
    | none => rfl
    | some d => rw [ho] at hd; simp only [Option.all_some, Bool.and_eq_true] at hd ⊢; exact hd.2
  have hd2 : o.dst.all (· < a.tmps.size) = true := by
    cases ho : o.dst with
    | none => rfl
    | some d => rw [ho] at hd; simp only [Option.all_some, Bool.and_eq_true] at hd ⊢; exact hd.1
  refine ⟨.k v, F, a.put o.dst v, ⟨AV.stable_k _ _, fun a' w hw ht => ?_⟩, sput_known hd1 hd2, by cases ho : o.dst <;> simp [Act.put], by cases ho : o.dst <;> rfl, hr⟩
  have hl' : ∀ t ∈ o.looksAt ops, t ∈ ts ∨ F.get t = none := fun t hm => by
    have := List.all_eq_true.1 hl t hm
    simp only [Bool.or_eq_true] at this
    rcases this with h1 | h1
    · exact .inl (by simpa using h1)
    · exact .inr (get_none_of_all h1)
  have hall : ∀ t ∈ ts, ∀ G', F.get t = some G' → G' (a'.tmps.getD t undef) w := fun t hts G' hG' => by
    have h1 := ht t (hin t hts)
    rw [semOf_some hG'] at h1
    exact h1
  obtain ⟨b, hb, _, hbt⟩ := LookQ_elim (a' := a') ts (h w hw) hz' hall
  have hag : ∀ t ∈ o.looksAt ops, a'.tmps.getD t undef = b.tmps.getD t undef := fun t hm => by
    rw [hbt t]
    by_cases h1 : t ∈ ts
    · simp [h1]
    · have h2 := (hl' t hm).resolve_left h1
      have := ht t hm
      rw [semOf_none h2] at this
      rw [if_neg h1]
      exact this
  rw [wanted_congr hag, execOp_looks (fun cs b => noSel_spec hs cs b) hag]
  exact hb

/-- behind the region: the slots of which only a property is known -/
def EndQ (w : World) : Facts → (Act → Prop) → Act → Prop
  | [], k, a => k a
  | (t, G) :: F, k, a => ∀ u, G u w → EndQ w F k (a.put (some t) u)
def distinctB : Facts → Bool
  | [] => true
  | (t, _) :: F => F.all (·.1 != t) && distinctB F
theorem EndQ_elim {w : World} {a' : Act} : ∀ (F : Facts) {k : Act → Prop} {a : Act}, distinctB F = true → EndQ w F k a → a'.tmps.size = a.tmps.size → a'.defers = a.defers → (F.all fun x => x.1 < a.tmps.size) = true →
    (∀ t G, F.get t = some G → G (a'.tmps.getD t undef) w) → (∀ t, F.get t = none → a'.tmps.getD t undef = a.tmps.getD t undef) → k a'
  | [], k, a, _, h, hs, hd, _, _, hn => by
    have e : a' = a := by
      obtain ⟨t', d'⟩ := a'
      obtain ⟨t, d⟩ := a
      simp only at hs hd hn
      subst hd
      have : t' = t := by
        apply Array.ext hs
        intro i h1 h2
        have := hn i rfl
        simpa [h1, h2] using this
      rw [this]
    rw [e]; exact h
  | (t, G) :: F', k, a, hB, h, hs, hd, hz, hp, hn => by
    let F : Facts := F'
    simp only [distinctB, Bool.and_eq_true] at hB
    simp only [List.all_cons, Bool.and_eq_true, decide_eq_true_eq] at hz
    have hFt : Facts.get F t = none := get_none_of_all hB.1
    refine EndQ_elim F hB.2 (h _ (hp t G Facts.get_cons_self)) (by simpa [Act.put] using hs) hd (by simpa [Act.put] using hz.2) (fun s G' hs' => ?_) (fun s hs' => ?_)
    · have hne : t ≠ s := fun e => by subst e; rw [hFt] at hs'; cases hs'
      exact hp s G' (by rw [Facts.get_cons_ne hne]; exact hs')
    · by_cases hne : t = s
      · subst hne
        simp [Act.put, hz.1]
      · rw [hn s (by rw [Facts.get_cons_ne hne]; exact hs')]
        simp [Act.put, Array.getElem?_setIfInBounds_ne hne]

/-- **A REGION THAT DRAWS ITS ORDER**, its first n operations walked in the text's order, the rest (which waits for them) as ever. -/
theorem wp_region_ext {id : Nat} {Q : Exit → Act → World → Prop} {a : Act} {w : World} {l : List Oper} (n : Nat) (hm : P.follows .mixedOrders = true) (hB : extB l.toArray n = true) (hd : dstsIn l.toArray a.tmps.size = true)
    (h : wpE P l.toArray w (fun a1 F => distinctB F = true ∧ (F.all fun x => x.1 < a.tmps.size) = true ∧ ∀ w', Ext w w' → EndQ w' F (fun a' => wpList P l.toArray Q (l.drop n) a' w') a1) (l.take n) a []) : (Code.region id l.toArray true).wp P Q a w := by
  refine wp_region_sem (ds := a.defers) n (semOf a []) a.tmps.size hm hB hd (fun t => ?_) ⟨rfl, rfl, fun t _ => ?_⟩ (wpSem_of_wpE (ds := a.defers) (m := a.tmps.size) (fun a1 F hs1 hd1 hq a' w' hw' hf => ?_) _ a [] rfl rfl h)
  · rw [semOf_none (by rfl)]; exact AV.stable_k _ _
  · rw [semOf_none (by rfl)]; rfl
  · obtain ⟨hB1, hz, hq⟩ := hq
    refine EndQ_elim (a' := a') F hB1 (hq w' hw') (hf.1.trans hs1.symm) (hf.2.1.trans hd1.symm) (by rw [hs1]; exact hz) (fun t G hG => ?_) (fun t hn => ?_)
    · have hlt : t < a.tmps.size := by
        have := hz
        simp only [Facts.get, Option.map_eq_some_iff] at hG
        obtain ⟨x, hx, _⟩ := hG
        have h1 := List.find?_some hx
        have h2 := List.all_eq_true.1 hz x (List.mem_of_find?_eq_some hx)
        simp at h1 h2
        rw [← h1]; exact h2
      have := hf.2.2 t hlt
      rw [semOf_some hG] at this
      exact this
    · by_cases hlt : t < a.tmps.size
      · have := hf.2.2 t hlt
        rw [semOf_none hn] at this
        exact this
      · have h1 : a'.tmps.size ≤ t := by rw [hf.1]; exact Nat.le_of_not_lt hlt
        have h2 : a1.tmps.size ≤ t := by rw [hs1]; exact Nat.le_of_not_lt hlt
        simp [h1, h2]
end
end Go.Proofs.Ytpfjkjmimmklcaa.D

namespace Go.Proofs.Ytpfjkjmimmklcaa.D
open Go.RowKit

theorem cell_ext {w0 : World} {p : Addr} {v : Value} (h : w0.cell? p = some v) : ∀ w, Ext w0 w → w.cell? p = some v := fun _ hw => hw.cell h
theorem sameCall {P : Program} {f : FuncId} {args : Array Value} {w : World} {v : Value} (h : Calls P f args w fun e w' => e = .returned v ∧ w = w') : Calls P f args w fun e w'' => e = .returned v ∧ Ext w w'' :=
  h.mono fun _ _ ⟨he, hw⟩ => ⟨he, hw ▸ Ext.refl _⟩
theorem knownCall {P : Program} {f : FuncId} {args : Array Value} {w : World} {v : Value} (h : Calls P f args w fun e w' => e = .returned v ∧ Ext w w') : Calls P f args w fun e w'' => ∃ u, e = .returned u ∧ Ext w w'' ∧ u = v :=
  h.mono fun _ _ ⟨he, hw⟩ => ⟨v, he, hw, rfl⟩


def IntsAt (xs : List Int) (v : Value) (w : World) : Prop := ∃ b, v = .slice (some ⟨b, 0, none⟩) xs.length xs.length ∧ ∀ (i : Nat) (x : Int), xs[i]? = some x → w.cell? ⟨b, i, none⟩ = some (.int .i64 x)
theorem IntsAt.stable {xs : List Int} {v : Value} {w w' : World} (hw : Ext w w') (h : IntsAt xs v w) : IntsAt xs v w' := by
  obtain ⟨b, hv, hc⟩ := h
  exact ⟨b, hv, fun i x hx => hw.cell (hc i x hx)⟩

theorem IntsAt.new (w : World) (xs : List Int) (t : TypeId) : IntsAt xs (.slice (some ⟨w.heap.size, 0, none⟩) xs.length xs.length) (w.alloc (.cells (xs.map (Value.int .i64)).toArray t)) :=
  ⟨w.heap.size, rfl, fun i x hx => CellsAt.new w (xs.map (Value.int .i64)) t (0, 0) i _ (by simp [hx])⟩

set_option maxRecDepth 100000 in
theorem val_cmp (a b : V) (w : World) : Calls Try.prog 91 #[a.val, b.val] w fun e w' => e = .returned (.int .i64 (cmpV a b)) ∧ Ext w w' := by
  obtain ⟨ak, ai, at_⟩ := a
  obtain ⟨bk, bi, bt⟩ := b
  simp only [V.val]
  go_enter Try.func91, Try.ntmps91
  go_wp2_with fail
  have ca := CellsAt.new w [.int .i64 ak, .int .i64 ai, .string at_] 58 (0, 0)
  have cb := CellsAt.new (w.alloc (Obj.cells #[.int .i64 ak, .int .i64 ai, .string at_] 58)) [.int .i64 bk, .int .i64 bi, .string bt] 58 (0, 0)
  have ca' := ca.ext (Ext.alloc _ (Obj.cells #[.int .i64 bk, .int .i64 bi, .string bt] 58)).1
  have HE := hide ((Ext.alloc w (Obj.cells #[.int .i64 ak, .int .i64 ai, .string at_] 58)).alloc' (Obj.cells #[.int .i64 bk, .int .i64 bi, .string bt] 58))
  rw [World.size_alloc] at cb
  generalize ((w.alloc (Obj.cells #[.int .i64 ak, .int .i64 ai, .string at_] 58)).alloc (Obj.cells #[.int .i64 bk, .int .i64 bi, .string bt] 58)) = w0 at *
  have c0 := cell_ext (ca' 0 _ rfl)
  have c1 := cell_ext (ca' 1 _ rfl)
  have c2 := cell_ext (ca' 2 _ rfl)
  have d0 := cell_ext (cb 0 _ rfl)
  have d1 := cell_ext (cb 1 _ rfl)
  have d2 := cell_ext (cb 2 _ rfl)
  clear ca ca' cb
  refine wp_region_ext 18 (by kernel_rfl) (by kernel_rfl) (by kernel_rfl) ?_
  iterate 15
    refine wpE_k (by kernel_rfl) (by kernel_rfl) ?_
    apply Exists.intro
    refine ⟨fun w1 hw1 => ?_, fun K hK => ?_⟩
    · go_simp; first | done | rfl | exact sameCall (cmp_kind _ _ _) | exact sameCall (cmp_int64 _ _ _) | exact sameCall (cmp_str _ _ _)
    go_simp; refine hK _ _ ?_; clear hK K
  refine wpE_p [] (IntsAt [cmpI ak bk, cmpI ai bi, cmpB at_ bt]) (fun u w w' _ h1 h2 => h2.stable h1) rfl (by kernel_rfl) (fun w1 hw1 => ?_) ?_
  · simp only [LookQ]
    clear c0 c1 c2 d0 d1 d2
    go_simp
    exact ⟨Ext.alloc _ _, IntsAt.new _ _ _⟩
  refine wpE_kp [20] (.int .i64 (cmpV ⟨ak, ai, at_⟩ ⟨bk, bi, bt⟩)) (by kernel_rfl) (by kernel_rfl) (fun w1 hw1 => ?_) (fun K hK => ?_)
  · simp only [LookQ]
    intro u hu
    obtain ⟨b, rfl, hc⟩ := hu _ rfl
    clear hu c0 c1 c2 d0 d1 d2
    go_simp
    refine ⟨Ext.refl _, sameCall (or_any b 0 3 3 _ w1 rfl (by omega) (fun i x hx => by rw [Nat.zero_add]; exact hc i x hx))⟩
  clear c0 c1 c2 d0 d1 d2
  go_simp; refine hK _ _ ?_; clear hK K
  refine wpE_k (by kernel_rfl) (by kernel_rfl) ?_
  apply Exists.intro
  refine ⟨fun w1 hw1 => ?_, fun K hK => ?_⟩
  · go_simp; rfl
  go_simp; refine hK _ _ ?_; clear hK K
  refine wpE_nil ⟨rfl, by kernel_rfl, fun w1 hw1 => ?_⟩
  simp only [EndQ]
  intro u hu
  refine wpList_nil ?_
  have HF := hide (HE.out.trans hw1)
  clear hu hw1 HE
  go_wp2
  go_ret
  exact ⟨rfl, HF.out⟩

def Row2At (w : World) (A : Option Addr) (n : Nat) (r : List V) : Prop := RowAt w A n r ∧ n ≤ 140737488355328

theorem cmpR_drop (as_ bs : List V) (k : Nat) (a b : V) (ha : as_[k]? = some a) (hb : bs[k]? = some b) : cmpR (as_.drop k) (bs.drop k) = if cmpV a b = 0 then cmpR (as_.drop (k + 1)) (bs.drop (k + 1)) else cmpV a b := by
  rw [List.getElem?_eq_some_iff] at ha hb
  obtain ⟨ha, ea⟩ := ha
  obtain ⟨hb, eb⟩ := hb
  rw [List.drop_eq_getElem_cons ha, List.drop_eq_getElem_cons hb, ea, eb]; rfl
theorem cmpR_left (as_ bs : List V) (k : Nat) (a : V) (ha : as_[k]? = some a) (hb : bs.length ≤ k) : cmpR (as_.drop k) (bs.drop k) = 1 := by
  rw [List.getElem?_eq_some_iff] at ha
  obtain ⟨ha, ea⟩ := ha
  rw [List.drop_eq_getElem_cons ha, List.drop_of_length_le hb]; rfl
theorem cmpR_end (as_ bs : List V) (k : Nat) (ha : as_.length ≤ k) (hb : k ≤ bs.length) : cmpR (as_.drop k) (bs.drop k) = if k < bs.length then -1 else 0 := by
  rw [List.drop_of_length_le ha]
  split
  · rename_i h; rw [List.drop_eq_getElem_cons h]; rfl
  · rename_i h; rw [List.drop_of_length_le (by omega)]; rfl

set_option maxRecDepth 100000 in
theorem cmp_func (as_ bs : List V) (A B : Option Addr) (n m c d : Nat) (w : World) (ha : RowAt w A n as_) (hb : RowAt w B m bs) (hn : n ≤ 140737488355328) (hm : m ≤ 140737488355328) :
    Calls Try.prog 90 #[.slice A n c, .slice B m d, .func (.func 91) #[] #[]] w fun e w' => e = .returned (.int .i64 (cmpR as_ bs)) ∧ Ext w w' := by
  have Ha := hide ha; have Hb := hide hb; clear ha hb
  go_enter Try.func90, Try.ntmps90
  go_wp2
  go_loopw [6, 7, 8, 9, 10, 13] (fun _ _ _ _ _ k w' => ∃ i : Nat, i ≤ n ∧ i ≤ m ∧ k = .int .i64 i ∧ Hid (cmpR as_ bs = cmpR (as_.drop i) (bs.drop i)) ∧ Hid (Ext w w')) (fun _ _ _ _ _ k _ => n - (intOf k).toNat)
  case atStart => exact ⟨0, by omega, by omega, rfl, rfl, Ext.refl _⟩
  case round =>
    obtain ⟨i, hin, him, rfl, ho, hw⟩ := hrel
    by_cases h : i < n
    · obtain ⟨b, off, x, rfl, hx, hb1, c0, c1, c2⟩ := (Ha.out.ext hw.out.1).get h
      have Hx := hide hx; clear hx
      by_cases h2 : i < m
      · obtain ⟨b', off', y, rfl, hy, hb2, d0, d1, d2⟩ := (Hb.out.ext hw.out.1).get h2
        have hd := hide (cmpR_drop as_ bs i x y Hx.out hy); clear hy
        go_wp2_with fail
        refine (val_cmp x y _).mono ?_
        rintro e w1 ⟨rfl, hw1⟩
        have HF := hide (((hw.out.trans (Ext.alloc _ _)).trans (Ext.alloc _ _)).trans hw1)
        clear hw1 c0 c1 c2 d0 d1 d2 hw hb1 hb2
        by_cases hz : cmpV x y = 0
        · have hz1 : (cmpV x y != 0) = false := by rw [hz]; rfl
          have Hz := hide hz; clear hz
          go_wp2_with fail
          go_roundw
          case rel => exact ⟨i + 1, by omega, by omega, by go_num, by rw [Hid, ho.out, hd.out, if_pos Hz.out], HF.out⟩
          case measure => simp [intOf]; omega
        · have hz1 : (cmpV x y != 0) = true := by simpa using hz
          have Hz := hide hz; clear hz
          go_wp2_with fail
          go_ret
          exact ⟨ret_int (by rw [ho.out, hd.out, if_neg Hz.out]), HF.out⟩
      · have hd := hide (cmpR_left as_ bs i x Hx.out (by have := Hb.out.len; omega))
        go_wp2_with fail
        go_ret
        exact ⟨ret_int (by rw [ho.out, hd.out]), (hw.out.trans (Ext.alloc _ _))⟩
    · have hd := hide (cmpR_end as_ bs i (by have := Ha.out.len; omega) (by have := Hb.out.len; omega))
      have hlen := Hb.out.len
      by_cases h2 : n < m
      · clear hlen
        go_wp2_with fail
        go_ret
        exact ⟨ret_int (by rw [ho.out, hd.out, if_pos (by have := Hb.out.len; omega)]), hw.out⟩
      · clear hlen
        go_wp2_with fail
        go_ret
        exact ⟨ret_int (by rw [ho.out, hd.out, if_neg (by have := Hb.out.len; omega)]), hw.out⟩

theorem row_cmp (as_ bs : List V) (A B : Option Addr) (n m c d : Nat) (w : World) (ha : RowAt w A n as_) (hb : RowAt w B m bs) (hn : n ≤ 140737488355328) (hm : m ≤ 140737488355328) :
    Calls Try.prog 57 #[.slice A n c, .slice B m d] w fun e w' => e = .returned (.int .i64 (cmpR as_ bs)) ∧ Ext w w' := by
  have H := hide (cmp_func as_ bs A B n m c d w ha hb hn hm)
  clear ha hb
  go_enter Try.func57, Try.ntmps57
  go_wp2_with fail
  refine H.out.mono ?_
  rintro e w1 ⟨rfl, hw1⟩
  have HF := hide hw1; clear hw1
  go_wp2_with fail
  go_ret
  exact ⟨rfl, HF.out⟩
end Go.Proofs.Ytpfjkjmimmklcaa.D

namespace Go.Proofs.Ytpfjkjmimmklcaa
open Go.RowKit Go.Shelf Go.Lib Go.Sort

theorem grow_of {W W' : World} (h : D.Ext W W') : ∃ q os, W' = grow (W.drewN q) os := by
  obtain ⟨⟨ho, ht, hout, hs, hb⟩, hd⟩ := h
  refine ⟨W'.drawn - W.drawn, W'.heap.extract W.heap.size W'.heap.size, ?_⟩
  obtain ⟨heap', tape', drawn', os', out'⟩ := W'
  obtain ⟨heap, tape, drawn, os, out⟩ := W
  simp only at ho ht hout hs hb hd
  subst ho; subst ht; subst hout
  have e1 : heap' = heap ++ heap'.extract heap.size heap'.size := by
    apply Array.ext_getElem?
    intro i
    by_cases hi : i < heap.size
    · rw [Array.getElem?_append_left hi, hb i hi]
    · rw [Array.getElem?_append_right (by omega), Array.getElem?_extract]
      by_cases h2 : i < heap'.size
      · rw [if_pos (by omega)]
        congr 1
        omega
      · rw [if_neg (by omega), Array.getElem?_eq_none (by omega)]
  have e2 : drawn' = drawn + (drawn' - drawn) := by omega
  unfold grow World.drewN
  simp only
  rw [← e1, ← e2]
theorem sort_ext {α : Type} [Inhabited α] {enc : α → Value} {w0 w : World} (h : Ext w0 w) {blk : Nat} (hb : w0.heap.size ≤ blk) (off m : Nat) (dk : Array α) (os : Array Obj) : Ext w0 (sortWorld enc w blk off m dk os) := by
  have hB : Go.RowKit.Below w0.heap.size w0 w := h
  show Go.RowKit.Below w0.heap.size w0 _
  refine ⟨hB.os, hB.tape, hB.output, ?_, fun k hk => ?_⟩
  · have := h.size
    simp only [sortWorld, grow, putRow, mapBlock, Sort.ahead, Array.size_append, Array.size_modify]
    omega
  · have hk2 : k < w.heap.size := Nat.lt_of_lt_of_le hk h.size
    simp only [sortWorld, grow, putRow, mapBlock, Sort.ahead]
    rw [Array.getElem?_append_left (by simpa using hk2), Array.getElem?_modify, if_neg (by omega)]
    exact h.block hk

/-- a row, and where it lies -/
structure RP where
  A : Option Addr
  n : Nat
  c : Nat
  r : List V
def RP.val (p : RP) : Value := .slice p.A p.n p.c
def RP.ok (w : World) (p : RP) : Prop := RowAt w p.A p.n p.r ∧ p.n ≤ 140737488355328
theorem RP.ok.ext {w w' : World} {p : RP} (h : p.ok w) (hw : Ext w w') : p.ok w' := ⟨h.1.ext hw, h.2⟩
def rpC (ps : List RP) : Array Value := (ps.map RP.val).toArray
def rpLe (a b : RP) : Prop := cmpR a.r b.r ≤ 0
def rpSame (a b : RP) : Bool := sameR a.r b.r

theorem swo_of {α : Type} (f : α → List V) : SWO (ltOf fun x y : α => cmpR (f x) (f y)) where
  irrefl x := by simp [ltOf, cmpR_self]
  trans x y z h1 h2 := by
    simp only [ltOf, decide_eq_true_iff] at *
    exact cmpR_lt_trans h1 h2
  ntrans x y z h1 h2 := by
    simp only [ltOf, decide_eq_false_iff_not] at *
    have a1 := isCmp_row.anti (f x) (f y)
    have a2 := isCmp_row.anti (f y) (f z)
    have a3 := isCmp_row.anti (f x) (f z)
    have := isCmp_row.trans (f z) (f y) (f x) (by omega) (by omega)
    omega

theorem sort_rows (ps : List RP) (w0 w : World) (g c : Nat) (hE : Ext w0 w) (hg : w0.heap.size ≤ g) (hB : Blk w g 35 (rpC ps)) (hok : ∀ p ∈ ps, p.ok w0) (hn : ps.length ≤ 16777216) (h0 : 0 < ps.length) :
    Calls Try.prog 107 #[.slice (some ⟨g, 0, none⟩) ps.length c, .func (.func 57) #[] #[]] w fun e w' => e = .returned (.tuple #[]) ∧
      ∃ ps' : List RP, ps'.Perm ps ∧ ps'.Pairwise rpLe ∧ Blk w' g 35 (rpC ps') ∧ Ext w0 w' := by
  let α := { p : RP // p.ok w0 }
  haveI : Inhabited α := ⟨⟨ps[0], hok _ (List.getElem_mem h0)⟩⟩
  let dl : List α := ps.attach.map fun p => ⟨p.1, hok p.1 p.2⟩
  have hdl : dl.map (·.1) = ps := by simp [dl, List.map_map, Function.comp_def]
  have hlen : dl.toArray.size = ps.length := by simp [dl]
  let enc : α → Value := fun x => x.1.val
  let cf : α → α → Int := fun x y => cmpR x.1.r y.1.r
  have eg : ∀ args w, (callFunc 57 args).run Try.prog w = .ok (.enter 57 args) w := enters_of Try.func57 (by kernel_rfl) rfl
  have hcmp : CmpLays1 Try.prog 57 #[] enc cf g 0 dl.toArray.size w := fun m os dk _ x y => by
    have h1 := sort_ext (enc := enc) hE hg 0 m dk os
    exact (D.row_cmp x.1.r y.1.r x.1.A y.1.A x.1.n y.1.n x.1.c y.1.c _ (x.2.1.ext h1) (y.2.1.ext h1) x.2.2 y.2.2).mono fun e w' ⟨he, hx⟩ => ⟨he, grow_of hx⟩
  have hcell : ∀ j (hj : j < dl.length), w.cell? ⟨g, j, none⟩ = some (enc dl[j]) := fun j hj => by
    rw [hB.cell j]
    have hj' : j < ps.length := by simpa [dl] using hj
    have : dl[j].1 = ps[j] := by simp [dl]
    simp [rpC, hj', enc, this]
  have hH : Holds enc w g 0 dl.toArray := fun j hj => by
    have hj' : j < dl.length := by simpa using hj
    rw [Nat.zero_add, getElem!_pos _ j hj]
    exact ⟨by simpa using hcell j hj', hB.frozen j⟩
  have h := Any.slices_SortFunc Try.sortRows enc (fun _ => rfl) cf (swo_of fun x : α => x.1.r) 57 #[] g 0 c dl.toArray w eg hcmp hH hB.lt (by rw [hlen]; omega)
  rw [hlen] at h
  change Calls Try.prog 107 _ _ _ at h
  refine h.mono fun e w' ⟨he, d', q, os, hp, hs, hw⟩ => ⟨he, d'.toList.map (·.1), ?_, ?_, ?_, ?_⟩
  · have h1 := hp.2.2
    have e1 : d'.extract 0 ps.length = d' := by
      have : d'.size = ps.length := by rw [hp.1, hlen]
      rw [← this]; simp
    have e2 : dl.toArray.extract 0 ps.length = dl.toArray := by rw [← hlen]; simp
    rw [e1, e2] at h1
    have := h1.map (fun x : α => x.1)
    rwa [List.toList_toArray, hdl] at this
  · have hsz : d'.size = ps.length := by rw [hp.1, hlen]
    rw [List.pairwise_iff_getElem]
    intro i j hi hj hij
    have hi' : i < d'.size := by simpa using hi
    have hj' : j < d'.size := by simpa using hj
    have h1 := hs i j (Nat.zero_le _) hij (by omega)
    rw [getElem!_pos _ j hj', getElem!_pos _ i hi'] at h1
    simp only [ltOf, decide_eq_false_iff_not, cf] at h1
    have a1 := isCmp_row.anti d'[i].1.r d'[j].1.r
    simp only [rpLe, List.getElem_map, Array.getElem_toList]
    omega
  · have hsz : d'.size = ps.length := by rw [hp.1, hlen]
    have hb := hB
    unfold Blk at hb
    have hlt := hB.lt
    rw [hw]
    unfold Blk
    simp only [sortWorld, grow, putRow, mapBlock, Sort.ahead]
    rw [Array.getElem?_append_left (by simpa using hlt), Array.getElem?_modify, if_pos rfl, hb]
    simp only [Option.map_some, onCells]
    congr 2
    apply Array.ext_getElem?
    intro k
    simp only [putCells, Array.getElem?_mapIdx, rpC, List.getElem?_toArray, List.getElem?_map]
    by_cases hk : k < ps.length
    · have hk' : k < d'.size := by omega
      have hk2 : k < d'.toList.length := by simpa using hk'
      rw [List.getElem?_eq_getElem hk, List.getElem?_eq_getElem hk2]
      simp only [Option.map_some, Nat.zero_le, true_and, Nat.zero_add, Nat.sub_zero]
      rw [if_pos hk', getElem!_pos _ k hk']
      simp [enc]
    · rw [List.getElem?_eq_none (by omega), List.getElem?_eq_none (by simp; omega)]
      rfl
  · rw [hw]
    exact sort_ext hE hg 0 q d' os
end Go.Proofs.Ytpfjkjmimmklcaa

namespace Go.Proofs.Ytpfjkjmimmklcaa
open Go.RowKit

theorem same_cmp (r s : List V) : (cmpR r s == 0) = sameR r s := by
  rw [Bool.eq_iff_iff, beq_iff_eq, sameR_iff, isCmp_row.eq]
theorem arr_eq1 (p q : RP) (w : World) (hp : p.ok w) (hq : q.ok w) :
    Calls Try.prog 109 #[p.val, q.val] w fun e w' => e = .returned (.bool (rpSame p q)) ∧ Ext w w' := by
  obtain ⟨A, n, c, r⟩ := p
  obtain ⟨B, m, d, s⟩ := q
  have HC := hide (row_cmp r s A B n m c d w hp.1 hq.1 hp.2 hq.2)
  have HB := hide (same_cmp r s)
  clear hp hq
  simp only [RP.val, rpSame]
  generalize cmpR r s = k at *
  go_enter Try.func109, Try.ntmps109
  go_wp2_with fail
  refine HC.out.mono ?_
  rintro e w1 ⟨rfl, x1⟩
  have X1 := hide x1; clear x1
  go_wp2_with fail
  go_ret
  exact ⟨ret_bool (by rw [← HB.out]), X1.out⟩

theorem Blk.setCells {g : Nat} {t : TypeId} : ∀ (vs : List Value) (o : Nat) {w : World} {cs : List Value}, Blk w g t cs.toArray → o + vs.length ≤ cs.length → Blk (w.setCells g o vs) g t (cs.take o ++ vs ++ cs.drop (o + vs.length)).toArray
  | [], o, w, cs, h, _ => by simpa [World.setCells] using h
  | v :: vs, o, w, cs, h, hl => by
    simp only [List.length_cons] at hl
    have h1 := h.set_ o v
    rw [List.setIfInBounds_toArray] at h1
    have h2 := Blk.setCells vs (o + 1) h1 (by rw [List.length_set]; omega)
    rw [World.setCells]
    have e : (cs.set o v).take (o + 1) ++ vs ++ (cs.set o v).drop (o + 1 + vs.length) = cs.take o ++ v :: vs ++ cs.drop (o + (vs.length + 1)) := by
      rw [List.take_succ_eq_append_getElem (by rw [List.length_set]; omega), List.getElem_set_self, List.take_set_of_le (Nat.le_refl _), List.drop_set_of_lt (by omega)]
      simp [Nat.add_assoc, Nat.add_comm 1]
    rw [e] at h2
    exact h2
theorem Ext.setCells {a : World} {g : Nat} (hg : a.heap.size ≤ g) : ∀ (vs : List Value) (o : Nat) {w : World}, Ext a w → Ext a (w.setCells g o vs)
  | [], _, _, h => h
  | v :: vs, o, _, h => Ext.setCells hg vs (o + 1) (h.setCell (p := ⟨g, o, none⟩) hg v)
theorem rpC_get {ps : List RP} {i : Nat} {p : RP} (h : ps[i]? = some p) : (rpC ps)[i]? = some p.val := by simp [rpC, h]
theorem rpC_size (ps : List RP) : (rpC ps).size = ps.length := by simp [rpC]
/-- while it is being compacted: kk are kept, the places from u on are as they were -/
structure CInv (w : World) (g : Nat) (ps : List RP) (kk u j : Nat) : Prop where
  len : kk = (ddBy rpSame (ps.take j)).length
  le : kk ≤ u
  blk : ∃ cs : List Value, cs.length = ps.length ∧ cs.take kk = (ddBy rpSame (ps.take j)).map RP.val ∧ (∀ (x : Nat) (p : RP), u ≤ x → ps[x]? = some p → cs[x]? = some p.val) ∧ Blk w g 35 cs.toArray
theorem CInv.go {w w' : World} {g : Nat} {ps : List RP} {kk u j : Nat} (h : CInv w g ps kk u j) (hw : Ext w w') : CInv w' g ps kk u j := by
  obtain ⟨cs, h1, h2, h3, h4⟩ := h.blk
  exact ⟨h.len, h.le, cs, h1, h2, h3, h4.ext hw⟩
theorem CInv.cell {w : World} {g : Nat} {ps : List RP} {kk u j : Nat} (h : CInv w g ps kk u j) {x : Nat} {p : RP} (hu : u ≤ x) (hp : ps[x]? = some p) : w.cell? ⟨g, x, none⟩ = some p.val := by
  obtain ⟨cs, _, _, h3, h4⟩ := h.blk
  rw [h4.cell x]
  simpa using h3 x p hu hp
theorem CInv.room {w : World} {g : Nat} {ps : List RP} {kk u j x : Nat} (h : CInv w g ps kk u j) (hx : x < ps.length) : (∃ v, w.cell? ⟨g, x, none⟩ = some v) ∧ w.frozen? ⟨g, x, none⟩ = false := by
  obtain ⟨cs, h1, _, _, h4⟩ := h.blk
  refine ⟨⟨cs[x]'(by omega), ?_⟩, h4.frozen x⟩
  rw [h4.cell x]
  simp [show x < cs.length by omega]
theorem CInv.skip {w : World} {g : Nat} {ps : List RP} {kk u : Nat} {p q : RP} (h : CInv w g ps kk u (u + 1)) (hp : ps[u + 1]? = some p) (hq : ps[u]? = some q) (hs : rpSame p q = true) : CInv w g ps kk (u + 1) (u + 2) := by
  obtain ⟨cs, h1, h2, h3, h4⟩ := h.blk
  have e := dd_next rpSame hp hq
  rw [hs] at e
  simp only [if_true, List.append_nil] at e
  exact ⟨by rw [e]; exact h.len, Nat.le_succ_of_le h.le, cs, h1, by rw [e]; exact h2, fun x p' hx hp' => h3 x p' (by omega) hp', h4⟩
theorem CInv.keep {w : World} {g : Nat} {ps : List RP} {kk u : Nat} {p q : RP} (h : CInv w g ps kk u (u + 1)) (hp : ps[u + 1]? = some p) (hq : ps[u]? = some q) (hs : rpSame p q = false) : CInv (w.setCell ⟨g, kk, none⟩ p.val) g ps (kk + 1) (u + 1) (u + 2) := by
  obtain ⟨cs, h1, h2, h3, h4⟩ := h.blk
  have e := dd_next rpSame hp hq
  rw [hs] at e
  simp only [Bool.false_eq_true, if_false] at e
  have hul := (List.getElem?_eq_some_iff.1 hp).1
  have hle := h.le
  have hb := h4.set_ kk p.val
  rw [List.setIfInBounds_toArray] at hb
  refine ⟨by rw [e, List.length_append, ← h.len]; rfl, by omega, cs.set kk p.val, by rw [List.length_set]; exact h1, ?_, fun x p' hx hp' => ?_, hb⟩
  · rw [List.take_succ_eq_append_getElem (by rw [List.length_set]; omega), List.getElem_set_self, List.take_set_of_le (Nat.le_refl _), h2, e, List.map_append]
    rfl
  · rw [List.getElem?_set_ne (by omega)]
    exact h3 x p' (by omega) hp'
theorem CInv.start {w : World} {g : Nat} {ps : List RP} {i : Nat} {p q : RP} (hB : Blk w g 35 (rpC ps)) (hd : ddBy rpSame (ps.take (i + 1)) = ps.take (i + 1)) (hp : ps[i + 1]? = some p) (hq : ps[i]? = some q) (hs : rpSame p q = true) : CInv w g ps (i + 1) (i + 1) (i + 2) := by
  have e := dd_next rpSame hp hq
  rw [hs] at e
  simp only [if_true, List.append_nil] at e
  have hul := (List.getElem?_eq_some_iff.1 hp).1
  refine ⟨?_, Nat.le_refl _, ps.map RP.val, by simp, ?_, fun x p' _ hp' => by simp [hp'], hB⟩
  · rw [e, hd, List.length_take]; omega
  · rw [e, hd, List.map_take]
/-- the slice that is handed back, and what lies behind it -/
structure Kept (w0 w : World) (g : Nat) (qs : List RP) (n : Nat) : Prop where
  blk : ∃ tail : List Value, (qs.map RP.val ++ tail).length = n ∧ Blk w g 35 (qs.map RP.val ++ tail).toArray
  ext : Ext w0 w

theorem zeroRow (w : World) : (zeroValue 35).run Try.prog w = .ok (.slice none 0 0) w := by kernel_rfl

set_option maxHeartbeats 4000000 in
set_option maxRecDepth 100000 in
theorem compact_rows (ps : List RP) (w0 w : World) (g c : Nat) (hE : Ext w0 w) (hg : w0.heap.size ≤ g) (hB : Blk w g 35 (rpC ps)) (hok : ∀ p ∈ ps, p.ok w0) (hn : ps.length ≤ 16777216) (hc : ps.length ≤ c) :
    Calls Try.prog 108 #[.slice (some ⟨g, 0, none⟩) ps.length c, .func (.func 109) #[] #[]] w fun e w' => e = .returned (.slice (some ⟨g, 0, none⟩) (ddBy rpSame ps).length c) ∧ Kept w0 w' g (ddBy rpSame ps) ps.length := by
  obtain ⟨n, hnl⟩ : ∃ n, n = ps.length := ⟨_, rfl⟩
  have Hn := hide hnl
  have HB := hide hB; have HOK := hide hok; have HE := hide hE
  clear hB hok hE
  rw [← hnl] at hn hc ⊢
  clear hnl
  have hkept : ∀ w', Ext w0 w' → Blk w' g 35 (rpC ps) → ddBy rpSame ps = ps → Kept w0 w' g (ddBy rpSame ps) n := fun w' h1 h2 h3 => by
    rw [h3]
    exact ⟨⟨[], by simp [Hn.out], by simpa [rpC] using h2⟩, h1⟩
  have HK := hide hkept; clear hkept
  have eg : ∀ args w, (callFunc 109 args).run Try.prog w = .ok (.enter 109 args) w := enters_of Try.func109 (by kernel_rfl) rfl
  by_cases h2 : n < 2
  · have hd : ddBy rpSame ps = ps := by
      have hl := Hn.out
      match ps, hl with
      | [], _ => rfl
      | [x], _ => rfl
      | x :: y :: l, h => simp only [List.length_cons] at h; omega
    have hret := hide (And.intro (show (ddBy rpSame ps).length = n by rw [hd]; exact Hn.out.symm) (HK.out w HE.out HB.out hd))
    clear hd
    go_enter Try.func108, Try.ntmps108
    go_wp2_with fail
    go_ret
    exact ⟨by rw [hret.out.1]; rfl, hret.out.2⟩
  · go_enter Try.func108, Try.ntmps108
    go_wp2_with fail
    go_loopw [5] (fun s5 w' => ∃ i : Nat, i + 1 ≤ n ∧ s5 = .int .i64 ((i : Int) + 1) ∧ Hid (ddBy rpSame (ps.take (i + 1)) = ps.take (i + 1)) ∧ Hid (Blk w' g 35 (rpC ps)) ∧ Hid (Ext w0 w')) (fun s5 _ => n + 1 - (intOf s5).toNat)
    case atStart =>
      have hp0 : ps[0]? = some (ps[0]'(by have := Hn.out; omega)) := List.getElem?_eq_getElem _
      refine ⟨0, by omega, rfl, ?_, HB.out, HE.out⟩
      rw [Hid, dd_one rpSame hp0, List.take_one, List.head?_eq_getElem?, hp0]
      rfl
    case round =>
      obtain ⟨i, hin, rfl, hd, hB, hX⟩ := hrel
      by_cases h : i + 1 < n
      · obtain ⟨p, hp⟩ : ∃ p, ps[i + 1]? = some p := ⟨_, List.getElem?_eq_getElem (by have := Hn.out; omega)⟩
        obtain ⟨q, hq⟩ : ∃ q, ps[i]? = some q := ⟨_, List.getElem?_eq_getElem (by have := Hn.out; omega)⟩
        have HP := hide hp; have HQ := hide hq
        have c1 := cell_ext (show wr.cell? ⟨g, i + 1, none⟩ = some p.val from (hB.out.cell (i + 1)).trans (rpC_get hp))
        have c0 := cell_ext (show wr.cell? ⟨g, i, none⟩ = some q.val from (hB.out.cell i).trans (rpC_get hq))
        have HAE := hide (fun w1 (h1 : Ext wr w1) => arr_eq1 p q w1 ((HOK.out p (List.mem_of_getElem? hp)).ext (hX.out.trans h1)) ((HOK.out q (List.mem_of_getElem? hq)).ext (hX.out.trans h1)))
        have hi1 : ((i : Int) + 1) < (n : Int) := by omega
        have hi0 : (0 : Int) ≤ (i : Int) := by omega
        have hin2 : ((i : Int)) < (n : Int) := by omega
        have hw0 : IntKind.i64.wrap (i : Int) = (i : Int) := IntWalk.i64_in _ (by omega)
        have hw1 : ((i : Int) + 1).toNat = i + 1 := by omega
        have hw2 : (0 : Int) ≤ (i : Int) + 1 := by omega
        clear hp hq
        go_wp2_with fail
        refine wp_region_ext 11 (by kernel_rfl) (by kernel_rfl) (by kernel_rfl) ?_
        iterate 11
          refine wpE_k (by kernel_rfl) (by kernel_rfl) ?_
          apply Exists.intro
          refine ⟨fun w1 hw1 => ?_, fun K hK => ?_⟩
          · go_simp; first | done | rfl | exact HAE.out w1 hw1
          go_simp; refine hK _ _ ?_; clear hK K
        refine wpE_nil ⟨rfl, by kernel_rfl, fun wq hwq => ?_⟩
        simp only [EndQ]
        refine wpList_nil ?_
        have Hwq := hide hwq; clear hwq
        clear c1 c0 hw0 hw1 hw2
        have hdn := dd_next rpSame HP.out HQ.out
        cases hs : rpSame p q with
        | false =>
          have hnx := hide (show ddBy rpSame (ps.take (i + 1 + 1)) = ps.take (i + 1 + 1) by
            rw [hdn, hs, hd.out, List.take_add_one (l := ps) (i := i + 1), HP.out]; rfl)
          clear hdn hs
          go_wp2_with fail
          go_roundw
          case rel => exact ⟨i + 1, by omega, by go_num, hnx.out, hB.out.ext Hwq.out, hX.out.trans Hwq.out⟩
          case measure => simp [intOf]; omega
        | true =>
          have HI0 := hide ((CInv.start hB.out hd.out HP.out HQ.out hs).go Hwq.out)
          have HXq := hide (hX.out.trans Hwq.out)
          clear hdn hs
          have hne : ¬ c = i + 1 := by omega
          have hle1 : (i : Int) + 1 ≤ (n : Int) := by omega
          have hle2 : (n : Int) ≤ (c : Int) := by omega
          go_wp2_with fail
          go_loopw [5, 7] (fun s5 s7 w' => ∃ kk m : Nat, s5 = .int .i64 (kk : Int) ∧ s7 = .int .i64 ((m : Int) + 1) ∧ i + 1 + m + 1 ≤ n ∧ kk ≤ i + 1 + m ∧ Hid (CInv w' g ps kk (i + 1 + m) (i + 1 + m + 1)) ∧ Hid (Ext w0 w')) (fun _ s7 _ => n + 1 - (intOf s7).toNat)
          case atStart => exact ⟨i + 1, 0, by go_num, by go_num, by omega, by omega, HI0.out, HXq.out⟩
          case round =>
            clear HI0 HXq hB hX hd
            obtain ⟨kk, m, rfl, rfl, hmn, hkm, hI, hX⟩ := hrel
            have hle3 : ((n - (i + 1) : Nat) : Int) = (n : Int) - (i : Int) - 1 := by omega
            have Hle3 := hide hle3; clear hle3
            by_cases hm : i + 1 + m + 1 < n
            · obtain ⟨p', hp'⟩ : ∃ p, ps[i + 1 + m + 1]? = some p := ⟨_, List.getElem?_eq_getElem (by have := Hn.out; omega)⟩
              obtain ⟨q', hq'⟩ : ∃ q, ps[i + 1 + m]? = some q := ⟨_, List.getElem?_eq_getElem (by have := Hn.out; omega)⟩
              have HP' := hide hp'; have HQ' := hide hq'
              have c1 := cell_ext (show wr.cell? ⟨g, i + 1 + (m + 1), none⟩ = some p'.val from hI.out.cell (x := i + 1 + (m + 1)) (by omega) hp')
              have c0 := cell_ext (show wr.cell? ⟨g, i + 1 + m, none⟩ = some q'.val from hI.out.cell (Nat.le_refl _) hq')
              have HAE' := hide (fun w1 (h1 : Ext wr w1) => arr_eq1 p' q' w1 ((HOK.out p' (List.mem_of_getElem? hp')).ext (hX.out.trans h1)) ((HOK.out q' (List.mem_of_getElem? hq')).ext (hX.out.trans h1)))
              have hm1 : ((m : Int) + 1) < ((n - (i + 1) : Nat) : Int) := by have := Hle3.out; omega
              have hm0 : (0 : Int) ≤ (m : Int) := by omega
              have hmn2 : (m : Int) < ((n - (i + 1) : Nat) : Int) := by have := Hle3.out; omega
              have hw0 : IntKind.i64.wrap (m : Int) = (m : Int) := IntWalk.i64_in _ (by omega)
              have hw1 : ((m : Int) + 1).toNat = m + 1 := by omega
              have hw2 : (0 : Int) ≤ (m : Int) + 1 := by omega
              clear hp' hq'
              go_wp2_with fail
              refine wp_region_ext 12 (by kernel_rfl) (by kernel_rfl) (by kernel_rfl) ?_
              iterate 12
                refine wpE_k (by kernel_rfl) (by kernel_rfl) ?_
                apply Exists.intro
                refine ⟨fun w1 hw1 => ?_, fun K hK => ?_⟩
                · go_simp; first | done | rfl | exact HAE'.out w1 hw1
                go_simp; refine hK _ _ ?_; clear hK K
              refine wpE_nil ⟨rfl, by kernel_rfl, fun wq2 hwq2 => ?_⟩
              simp only [EndQ]
              refine wpList_nil ?_
              have Hwq2 := hide hwq2; clear hwq2
              clear c1 c0 hw0 hw1 hw2
              have HI2 := hide (hI.out.go Hwq2.out)
              cases hs2 : rpSame p' q' with
              | true =>
                have HI3 := hide (HI2.out.skip HP'.out HQ'.out hs2)
                clear hs2
                go_wp2_with fail
                go_roundw
                case rel => exact ⟨kk, m + 1, rfl, by go_num, by omega, by omega, HI3.out, hX.out.trans Hwq2.out⟩
                case measure => simp [intOf]; omega
              | false =>
                have HI3 := hide (HI2.out.keep HP'.out HQ'.out hs2)
                clear hs2
                have c1 : wq2.cell? ⟨g, i + 1 + (m + 1), none⟩ = some p'.val := HI2.out.cell (x := i + 1 + (m + 1)) (by omega) HP'.out
                obtain ⟨⟨v0, c2⟩, f2⟩ := HI2.out.room (x := kk) (by have := Hn.out; omega)
                have hkn : kk < n := by omega
                clear HAE'
                obtain ⟨pA, pn, pc, pr⟩ := p'
                simp only [RP.val] at c1 HI3 ⊢
                go_wp2_with fail
                go_roundw
                case rel => first | exact ⟨kk + 1, m + 1, by go_num, by go_num, by omega, by omega, HI3.out, (hX.out.trans Hwq2.out).setCell (p := ⟨g, kk, none⟩) hg _⟩ | ((repeat apply Exists.intro); exact ⟨⟨kk + 1, m + 1, by go_num, by go_num, by omega, by omega, HI3.out, (hX.out.trans Hwq2.out).setCell (p := ⟨g, kk, none⟩) hg _⟩, rfl⟩)
                case measure => simp [intOf]; omega
            · have hkn : kk < n := by omega
              have hnk : ¬ c = kk := by omega
              have hcl : ∀ ty, (Builtin.clear_ #[27] ty #[.slice (some ⟨g, kk, none⟩) (n - kk) (c - kk)]).run Try.prog wr = .ok (.tuple #[]) (wr.setCells g kk (List.replicate (n - kk) (.slice none 0 0))) := fun ty => by
                have h1 := Lib.run_clear_slice (P := Try.prog) wr _ _ ty _ Try.underlying27 zeroRow rfl rfl g kk (n - kk) (c - kk) (by omega)
                  (fun j hj => by obtain ⟨⟨v, e⟩, _⟩ := hI.out.room (x := kk + j) (by have := Hn.out; omega); rw [e]; rfl) (fun j hj => (hI.out.room (x := kk + j) (by have := Hn.out; omega)).2)
                exact h1
              have hfin := hide (show (ddBy rpSame ps).length = kk ∧ Kept w0 (wr.setCells g kk (List.replicate (n - kk) (.slice none 0 0))) g (ddBy rpSame ps) n by
                have hall : ps.take (i + 1 + m + 1) = ps := List.take_of_length_le (by have := Hn.out; omega)
                obtain ⟨cs, h1, h2, _, h4⟩ := hI.out.blk
                have hlen := hI.out.len
                rw [hall] at h2 hlen
                have hn' := Hn.out
                have h5 := Blk.setCells (List.replicate (n - kk) (Value.slice none 0 0)) kk h4 (by rw [List.length_replicate]; omega)
                rw [List.length_replicate, List.drop_of_length_le (by omega), List.append_nil, h2] at h5
                exact ⟨hlen.symm, ⟨_, by rw [List.length_append, List.length_map, List.length_replicate]; omega, h5⟩, Ext.setCells hg _ _ hX.out⟩)
              go_wp2_with fail
              go_ret
              exact ⟨by rw [hfin.out.1]; rfl, hfin.out.2⟩
      · have hall := hide (And.intro (show ddBy rpSame ps = ps by
            have h1 := hd.out
            rwa [List.take_of_length_le (by have := Hn.out; omega)] at h1) Hn.out)
        have hret := hide (And.intro (show (ddBy rpSame ps).length = n by rw [hall.out.1]; exact hall.out.2.symm) (HK.out wr hX.out hB.out hall.out.1))
        go_wp2_with fail
        go_ret
        exact ⟨by rw [hret.out.1]; rfl, hret.out.2⟩
end Go.Proofs.Ytpfjkjmimmklcaa

namespace Go.Proofs.Ytpfjkjmimmklcaa
open Go.RowKit Go.Shelf

theorem rps_of {w : World} {cells : List Value} {rows : List (List V)} (h : Els RRow 1 w cells rows) : (∀ r ∈ rows, r.length ≤ 140737488355328) → ∃ ps : List RP, cells = ps.map RP.val ∧ ps.map RP.r = rows ∧ ∀ p ∈ ps, p.ok w := by
  induction h with
  | nil => intro _; exact ⟨[], rfl, rfl, fun p hp => by cases hp⟩
  | @cons cs x cells xs _ _ h3 _ ih =>
    intro hb
    obtain ⟨ps, e1, e2, e3⟩ := ih fun r hr => hb r (List.mem_cons_of_mem _ hr)
    obtain ⟨A, n, c, rfl, hR⟩ := h3
    have hx := hb x (List.mem_cons_self ..)
    refine ⟨⟨A, n, c, x⟩ :: ps, by rw [e1]; rfl, by rw [List.map_cons, e2], fun p hp => ?_⟩
    rcases List.mem_cons.1 hp with rfl | hp
    · exact ⟨hR, by have := hR.len; simp only; omega⟩
    · exact e3 p hp
theorem sort_any (ps : List RP) (w0 w : World) (g c : Nat) (hE : Ext w0 w) (hg : w0.heap.size ≤ g) (hB : Blk w g 35 (rpC ps)) (hok : ∀ p ∈ ps, p.ok w0) (hn : ps.length ≤ 16777216) :
    Calls Try.prog 107 #[.slice (some ⟨g, 0, none⟩) ps.length c, .func (.func 57) #[] #[]] w fun e w' => e = .returned (.tuple #[]) ∧
      ∃ ps' : List RP, ps'.Perm ps ∧ ps'.Pairwise rpLe ∧ Blk w' g 35 (rpC ps') ∧ Ext w0 w' := by
  rcases Nat.eq_zero_or_pos ps.length with h0 | h0
  · have e0 : ps = [] := List.eq_nil_of_length_eq_zero h0
    subst e0
    have h := AnyF.slices_SortFunc_none (P := Try.prog) (ρ := Try.sortRows_ren) { Try.sortRows with } (some ⟨g, 0, none⟩) c (.func (.func 57) #[] #[]) w
    change Calls Try.prog 107 _ _ _ at h
    exact h.mono fun e w' ⟨he, hw⟩ => ⟨he, [], .nil, .nil, by rw [hw]; exact hB, by rw [hw]; exact hE⟩
  · exact sort_rows ps w0 w g c hE hg hB hok hn h0
theorem arr_of {rows : List (List V)} {ps ps' : List RP} (hr : ps.map RP.r = rows) (hp : ps'.Perm ps) (hs : ps'.Pairwise rpLe) : (ddBy rpSame ps').map RP.r = arrP rows := by
  obtain ⟨h1, h2⟩ := dd_rises RP.r rpSame (fun x y => sameR_iff) ps' hs
  refine arr_eq h1 fun x => (h2 x).trans ?_
  rw [← hr]
  exact (hp.map RP.r).mem_iff
theorem keepN {α : Type} (xs : List α) (i : Nat) (x : α) (h : xs[i]? = some x) : xs.take (i + 1) = xs.take i ++ [x] ∧ xs.drop i = x :: xs.drop (i + 1) := by
  obtain ⟨hl, e⟩ := List.getElem?_eq_some_iff.1 h
  exact ⟨by rw [List.take_add_one, h]; rfl, by rw [List.drop_eq_getElem_cons hl, e]⟩
structure AInv (w0 w : World) (g : Nat) (qs : List RP) (n i : Nat) : Prop where
  blk : ∃ cs tail : List Value, cs.length = i ∧ (cs ++ (qs.drop i).map RP.val ++ tail).length = n ∧ Blk w g 35 (cs ++ (qs.drop i).map RP.val ++ tail).toArray ∧ Els (RMine w0.heap.size) 1 w cs ((qs.take i).map RP.r)
  ext : Ext w0 w
theorem AInv.go {w0 w w' : World} {g : Nat} {qs : List RP} {n i : Nat} (h : AInv w0 w g qs n i) (hw : Ext w w') : AInv w0 w' g qs n i := by
  obtain ⟨cs, tail, h1, h2, h3, h4⟩ := h.blk
  exact ⟨⟨cs, tail, h1, h2, h3.ext hw, h4.ext (RMine.stab _) hw⟩, h.ext.trans hw⟩
theorem AInv.at_ {w0 w : World} {g : Nat} {qs : List RP} {n i : Nat} {q : RP} (h : AInv w0 w g qs n i) (hq : qs[i]? = some q) : w.cell? ⟨g, i, none⟩ = some q.val ∧ w.frozen? ⟨g, i, none⟩ = false := by
  obtain ⟨cs, tail, h1, h2, h3, _⟩ := h.blk
  refine ⟨?_, h3.frozen i⟩
  rw [h3.cell i, (keepN qs i q hq).2]
  subst h1
  simp
theorem AInv.put {w0 w : World} {g : Nat} {qs : List RP} {n i : Nat} {q : RP} {A : Option Addr} {k c : Nat} (h : AInv w0 w g qs n i) (hq : qs[i]? = some q) (hg : w0.heap.size ≤ g) (ho : w.ownsRow w0.heap.size 58 3 (.slice A k c) k (cellsR q.r)) :
    AInv w0 (w.setCell ⟨g, i, none⟩ (.slice A k c)) g qs n (i + 1) := by
  obtain ⟨cs, tail, h1, h2, h3, h4⟩ := h.blk
  obtain ⟨e1, e2⟩ := keepN qs i q hq
  have hset : ∀ {A : Option Addr} {k c : Nat} {xs : List Value}, w.ownsRow w0.heap.size 58 3 (.slice A k c) k xs → ∀ u, (w.setCell ⟨g, i, none⟩ u).ownsRow w0.heap.size 58 3 (.slice A k c) k xs := fun h u =>
    h.kept (row := some g) ⟨rfl, rfl, rfl, by simp, fun k _ hk => Below.heap_setCell _ _ _ _ (fun e => hk (by rw [e]))⟩ (.inr (Ne.symm (own_ne_blk h h3 (by decide))))
  refine ⟨⟨cs ++ [.slice A k c], tail, by simp [h1], ?_, ?_, ?_⟩, h.ext.setCell (p := ⟨g, i, none⟩) hg _⟩
  · rw [e2] at h2
    simp at h2 ⊢
    omega
  · have h5 := h3.set_ i (.slice A k c)
    rw [e2, List.setIfInBounds_toArray] at h5
    subst h1
    simpa using h5
  · rw [e1, List.map_append]
    refine Els.snoc (h4.mono fun c' x hx => ?_) rfl (fun v hv => by obtain rfl := List.mem_singleton.1 hv; rfl) ⟨A, k, c, rfl, hset ho _⟩
    obtain ⟨A1, n1, c1, f1, f2⟩ := hx
    exact ⟨A1, n1, c1, f1, hset f2 _⟩

set_option maxHeartbeats 4000000 in
set_option maxRecDepth 100000 in
theorem arrange_any (rows : List (List V)) (A : Option Addr) (n c : Nat) (w : World) (ha : LAt RRow 1 w A n rows) (hn : n ≤ 16777216) (hr : ∀ r ∈ rows, r.length ≤ 16777216) :
    Calls Try.prog 82 #[.slice A n c] w (RetRows w (arrP rows)) := by
  obtain ⟨i0, hi0, hz0, hz1, hz2⟩ := info_parts infoRw
  have hmk := run_make_n (P := Try.prog) 27 35 i0 _ Try.underlying27 hi0 hz0 (by omega) .i64 .i64 n hn
  simp only [hz1] at hmk
  obtain ⟨hlen, cells, hels, hsl⟩ := ha
  obtain ⟨ps, rfl, hps, hok⟩ := rps_of hels fun r h => by have := hr r h; omega
  have hpl : ps.length = n := by rw [← hps, List.length_map] at hlen; omega
  have HPL := hide hpl
  have HPS := hide hps; have HOK := hide hok; have HR := hide hr
  have Hsl := hide hsl; have Hone := hide hels.one
  have HSO := hide (fun w1 (h1 : Ext w w1) (h2 : Blk w1 w.heap.size 35 (rpC ps)) => sort_any ps w w1 w.heap.size n h1 (Nat.le_refl _) h2 hok (by omega))
  have HCO := hide (fun (ps' : List RP) (hp : ps'.Perm ps) w1 (h1 : Ext w w1) (h2 : Blk w1 w.heap.size 35 (rpC ps')) => compact_rows ps' w w1 w.heap.size n h1 (Nat.le_refl _) h2 (fun p hm => hok p (hp.mem_iff.1 hm)) (by rw [hp.length_eq]; omega) (by rw [hp.length_eq]; omega))
  rw [hpl] at HSO
  clear hels hsl hok hr hlen hz1 hz2 hz0 hi0 hps
  go_enter Try.func82, Try.ntmps82
  go_upto_region 5 with (first
    | (refine wpList_copy_sl rfl (.tmp 8) (.tmp 9) 27 27 rfl 35 1 Try.underlying27 sizeRw A w.heap.size 0 n n n c rfl rfl _ 35 (heap_alloc_new w _) (ps.map RP.val) (Hsl.out.ext (Ext.alloc w _)) (Nat.le_refl _) (by have h := Hsl.out.1; rw [size_madeCells]; omega) Hone.out w (Ext.alloc w _) (Nat.le_refl _) ?_
       intro w2 hg1 hE1 hs1
       have hB2 := hide (show Blk w2 w.heap.size 35 (rpC ps) by
         have h := hg1.out
         rw [splice_all (by have h' := Hsl.out.1; rw [Array.length_toList, size_madeCells]; omega)] at h
         exact h)
       clear hg1 hs1 hmk)
    | ((with_reducible refine (HSO.out _ hE1.out hB2.out).mono ?_); rintro e w3 ⟨rfl, ps', hp, hs, hb, x3⟩; have HP := hide hp; have HS := hide hs; have HB3 := hide hb; have X3 := hide x3; have hl3 := hp.length_eq; rw [hpl] at hl3; have HL3 := hide hl3; clear hp hs hb x3 hl3; have HC3 := hide (HCO.out ps' HP.out _ X3.out HB3.out); rw [HL3.out] at HC3)
    | ((with_reducible refine HC3.out.mono ?_); rintro e w4 ⟨rfl, hk⟩; have HK := hide hk; clear hk))
  have harr := hide (arr_of HPS.out HP.out HS.out)
  have HQK := hide (show ∀ q ∈ ddBy rpSame ps', q.ok w ∧ q.n ≤ 16777216 from fun q hq => by
    have h1 := HP.out.mem_iff.1 (dd_sub rpSame ps' q hq)
    have h2 := HOK.out q h1
    refine ⟨h2, ?_⟩
    have h3 := HR.out q.r (by rw [← HPS.out]; exact List.mem_map_of_mem h1)
    have := h2.1.len
    omega)
  have hml := dd_len rpSame ps'
  rw [HL3.out] at hml
  generalize ddBy rpSame ps' = qs at *
  obtain ⟨m, hm⟩ : ∃ m, m = qs.length := ⟨_, rfl⟩
  rw [← hm] at hml ⊢
  have HM := hide hm; clear hm
  have HI0 := hide (show AInv w w4 w.heap.size qs n 0 by
    obtain ⟨tail, h1, h2⟩ := HK.out.blk
    exact ⟨⟨[], tail, rfl, by simpa using h1, by simpa using h2, by simpa using Els.nil⟩, HK.out.ext⟩)
  clear hpl
  go_wp2_with fail
  go_loopw [17] (fun s17 w' => ∃ i : Nat, i ≤ m ∧ s17 = .int .i64 i ∧ Hid (AInv w w' w.heap.size qs n i)) (fun s17 _ => m - (intOf s17).toNat)
  case atStart => exact ⟨0, by omega, rfl, HI0.out⟩
  case round =>
    obtain ⟨i, him, rfl, hI⟩ := hrel
    by_cases h : i < m
    · obtain ⟨q, hq⟩ : ∃ q, qs[i]? = some q := ⟨_, List.getElem?_eq_getElem (by have := HM.out; omega)⟩
      obtain ⟨hqk, hqn⟩ := HQK.out q (List.mem_of_getElem? hq)
      have Hq := hide hq
      have c0 := (hI.out.at_ hq).1
      have HCL := hide (cloneV (cellsR q.r) q.A q.n q.c wr (hqk.ext hI.out.ext).1.2 (cellsR_one _) hqn)
      clear hq hqk
      simp only [RP.val] at c0
      go_wp2_with ((with_reducible refine HCL.out.mono ?_); rintro e w5 ⟨A5, c5, rfl, o5, x5⟩; have HO5 := hide (show w5.ownsRow w.heap.size 58 3 (.slice A5 q.n c5) q.n (cellsR q.r) from ⟨o5.1, by
          rcases o5.2 with h1 | ⟨g1, cap, cur, h1, h2, h3⟩
          · exact .inl h1
          · exact .inr ⟨g1, cap, cur, h1, Nat.le_trans hI.out.ext.size h2, h3⟩⟩); have HI5 := hide (hI.out.go x5); clear o5 x5 c0; have c0 := (HI5.out.at_ Hq.out).1; have f0 := (HI5.out.at_ Hq.out).2)
      go_roundw
      case rel => exact ⟨i + 1, by omega, by go_num, HI5.out.put Hq.out (Nat.le_refl _) HO5.out⟩
      case measure => simp [intOf]; omega
    · obtain rfl : i = m := by omega
      have hfin := hide (show RetRows w (qs.map RP.r) (.returned (.slice (some ⟨w.heap.size, 0, none⟩) i n)) wr by
        obtain ⟨cs, tail, h1, h2, h3, h4⟩ := hI.out.blk
        have hd : qs.drop i = [] := List.drop_of_length_le (by have := HM.out; omega)
        rw [List.take_of_length_le (by have := HM.out; omega)] at h4
        rw [hd] at h2 h3
        simp only [List.map_nil, List.append_nil] at h2 h3
        refine ⟨_, _, _, cs, rfl, by rw [List.length_map]; exact HM.out, ⟨by omega, .inr ⟨w.heap.size, n, _, rfl, Nat.le_refl _, h3, hml, by unfold maxLen; omega, by simp at h2 ⊢; omega, by simp [← h1]⟩⟩, h4, hI.out.ext⟩)
      go_wp2_with fail
      go_ret
      rw [← harr.out]
      exact hfin.out
end Go.Proofs.Ytpfjkjmimmklcaa
