/-
  The rows' order, as plain Lean: a total order; a row comes ahead of all that go on from it.
-/
import Derived.Test.YtoahckibhmoikaaDoorGround
namespace Go.Proofs.YtoahckibhmoikaaDoor

structure IsCmp {α : Type} (c : α → α → Int) : Prop where
  range : ∀ a b, c a b = -1 ∨ c a b = 0 ∨ c a b = 1
  anti : ∀ a b, c b a = - c a b
  eq : ∀ a b, c a b = 0 ↔ a = b
  trans : ∀ a b d, c a b ≤ 0 → c b d ≤ 0 → c a d ≤ 0

theorem isCmp_int : IsCmp cmpI where
  range a b := by unfold cmpI; split <;> (try split) <;> omega
  anti a b := by unfold cmpI; split <;> split <;> (try split) <;> omega
  eq a b := by unfold cmpI; split <;> (try split) <;> omega
  trans a b d := by
    unfold cmpI
    by_cases h1 : a < b <;> by_cases h2 : b < a <;> by_cases h3 : b < d <;> by_cases h4 : d < b <;> by_cases h5 : a < d <;> by_cases h6 : d < a <;> simp [h1, h2, h3, h4, h5, h6] <;> omega

section
variable {α β γ : Type}
theorem IsCmp.pull {c : β → β → Int} (h : IsCmp c) (f : α → β) (hf : ∀ a b, f a = f b → a = b) : IsCmp fun a b => c (f a) (f b) where
  range a b := h.range _ _
  anti a b := h.anti _ _
  eq a b := (h.eq _ _).trans ⟨hf a b, fun e => by rw [e]⟩
  trans a b d := h.trans _ _ _

theorem IsCmp.pair {c : β → β → Int} {d : γ → γ → Int} (hc : IsCmp c) (hd : IsCmp d) (f : α → β) (g : α → γ) (hfg : ∀ a b, f a = f b → g a = g b → a = b) :
    IsCmp fun a b => if c (f a) (f b) = 0 then d (g a) (g b) else c (f a) (f b) where
  range a b := by
    have h1 := hc.range (f a) (f b)
    have h2 := hd.range (g a) (g b)
    split <;> assumption
  anti a b := by
    have h1 := hc.anti (f a) (f b)
    have h2 := hd.anti (g a) (g b)
    split <;> split <;> omega
  eq a b := by
    split
    · rename_i h
      rw [hd.eq]
      exact ⟨hfg a b ((hc.eq _ _).1 h), fun e => by rw [e]⟩
    · rename_i h
      exact ⟨fun h' => absurd h' h, fun e => absurd ((hc.eq _ _).2 (by rw [e])) h⟩
  trans a b e := by
    have h1 := hc.trans (f a) (f b) (f e)
    have h2 := hd.trans (g a) (g b) (g e)
    have h3 := hc.trans (f b) (f e) (f a)
    have h4 := hc.trans (f e) (f a) (f b)
    have a1 := hc.anti (f a) (f b)
    have a2 := hc.anti (f b) (f e)
    have a3 := hc.anti (f a) (f e)
    split <;> split <;> split <;> omega

def lexL (c : α → α → Int) : List α → List α → Int
  | [], [] => 0
  | [], _ :: _ => -1
  | _ :: _, [] => 1
  | a :: l, b :: m => if c a b = 0 then lexL c l m else c a b

theorem IsCmp.lex {c : α → α → Int} (h : IsCmp c) : IsCmp (lexL c) where
  range a := by
    induction a with
    | nil => intro b; cases b <;> simp [lexL]
    | cons x l ih =>
      intro b
      cases b with
      | nil => simp [lexL]
      | cons y m =>
        have := h.range x y
        simp only [lexL]
        split
        · exact ih m
        · exact this
  anti a := by
    induction a with
    | nil => intro b; cases b <;> simp [lexL]
    | cons x l ih =>
      intro b
      cases b with
      | nil => simp [lexL]
      | cons y m =>
        have h1 := h.anti x y
        have h2 := ih m
        simp only [lexL]
        split <;> split <;> omega
  eq a := by
    induction a with
    | nil => intro b; cases b <;> simp [lexL]
    | cons x l ih =>
      intro b
      cases b with
      | nil => simp [lexL]
      | cons y m =>
        simp only [lexL, List.cons.injEq]
        split
        · rename_i hc
          rw [ih m]
          exact ⟨fun e => ⟨(h.eq _ _).1 hc, e⟩, fun e => e.2⟩
        · rename_i hc
          exact ⟨fun h' => absurd h' hc, fun e => absurd ((h.eq _ _).2 e.1) hc⟩
  trans a := by
    induction a with
    | nil => intro b d _ _; cases d <;> simp [lexL]
    | cons x l ih =>
      intro b d
      cases b with
      | nil => simp [lexL]
      | cons y m =>
        cases d with
        | nil => simp [lexL]
        | cons z n =>
          have h1 := h.trans x y z
          have h2 := ih m n
          have h3 := h.trans y z x
          have h4 := h.trans z x y
          have a1 := h.anti x y
          have a2 := h.anti y z
          have a3 := h.anti x z
          simp only [lexL]
          split <;> split <;> split <;> omega
end

def cmpU (a b : UInt8) : Int := cmpI a.toNat b.toNat
theorem isCmp_u8 : IsCmp cmpU := isCmp_int.pull (fun a : UInt8 => (a.toNat : Int)) fun a b h => UInt8.toNat_inj.1 (by omega)
theorem compareBytes_lex : ∀ a b : List UInt8, Lib.compareBytes a b = lexL cmpU a b
  | [], [] => rfl
  | [], _ :: _ => rfl
  | _ :: _, [] => rfl
  | x :: a, y :: b => by
    have h1 : (x < y) ↔ ((x.toNat : Int) < y.toNat) := by rw [UInt8.lt_iff_toNat_lt]; omega
    have h2 : (y < x) ↔ ((y.toNat : Int) < x.toNat) := by rw [UInt8.lt_iff_toNat_lt]; omega
    simp only [Lib.compareBytes, lexL, cmpU, cmpI, h1, h2, compareBytes_lex a b]
    split
    · simp
    · split <;> simp
theorem isCmp_bytes : IsCmp cmpB := by
  have h : cmpB = fun a b => lexL cmpU a.data.toList b.data.toList := by
    funext a b; exact compareBytes_lex _ _
  rw [h]
  refine (isCmp_u8.lex).pull (fun a : ByteArray => a.data.toList) fun a b h => ?_
  obtain ⟨a⟩ := a; obtain ⟨b⟩ := b
  exact congrArg ByteArray.mk (Array.toList_inj.1 h)
theorem isCmp_val : IsCmp cmpV := by
  have h : cmpV = fun a b => if cmpI a.k b.k = 0 then (if cmpI a.i b.i = 0 then cmpB a.t b.t else cmpI a.i b.i) else cmpI a.k b.k := by
    funext a b
    simp only [cmpV, orI]
    split
    · split
      · split
        · rename_i h; rw [h]
        · rfl
      · rfl
    · rfl
  rw [h]
  have h2 : IsCmp fun a b : Int × ByteArray => if cmpI a.1 b.1 = 0 then cmpB a.2 b.2 else cmpI a.1 b.1 :=
    isCmp_int.pair isCmp_bytes (·.1) (·.2) fun a b h1 h2 => Prod.ext h1 h2
  exact isCmp_int.pair h2 (fun a : V => a.k) (fun a : V => (a.i, a.t)) fun a b h1 h2 => by
    obtain ⟨k, i, t⟩ := a; obtain ⟨k', i', t'⟩ := b
    simp at h1 h2
    simp [h1, h2]
theorem cmpR_lex : ∀ a b : List V, cmpR a b = lexL cmpV a b
  | [], [] => rfl
  | [], _ :: _ => rfl
  | _ :: _, [] => rfl
  | x :: a, y :: b => by simp only [cmpR, lexL, cmpR_lex a b]
theorem isCmp_row : IsCmp cmpR := by
  have h : cmpR = lexL cmpV := by funext a b; exact cmpR_lex a b
  rw [h]; exact isCmp_val.lex

theorem cmpR_longer : ∀ (a b : List V), b ≠ [] → cmpR a (a ++ b) = -1
  | [], [], h => absurd rfl h
  | [], _ :: _, _ => rfl
  | x :: a, b, h => by
    have h0 : cmpV x x = 0 := (isCmp_val.eq x x).2 rfl
    simp only [List.cons_append, cmpR, h0, if_true]
    exact cmpR_longer a b h
end Go.Proofs.YtoahckibhmoikaaDoor
