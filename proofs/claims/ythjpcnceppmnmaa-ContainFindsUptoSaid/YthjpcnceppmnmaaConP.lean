/-
  Layings of one query upon another, as plain data: what the program finds and what the document defines.
-/
import Derived.Test.YthjpcnceppmnmaaLs
namespace Go.Proofs.Ythjpcnceppmnmaa
open Go.RowKit

def sameT (a b : Tm) : Bool := decide (a.v = b.v) && sameV a.c b.c
theorem sameT_iff {a b : Tm} : sameT a b = true ↔ a = b := by
  obtain ⟨v, c⟩ := a
  obtain ⟨v', c'⟩ := b
  simp [sameT, sameV_iff]
theorem sameT_ne {a b : Tm} : sameT a b = false ↔ a ≠ b := by
  rw [Ne, ← sameT_iff]; simp
/-- no variable: a constant -/
def noVar (t : Tm) : Bool := t.v.toList.isEmpty

/-- what the variables are laid upon so far -/
abbrev Env : Type := ByteArray → Option Tm
def Env.put (σ : Env) (x : ByteArray) (t : Tm) : Env := fun y => if y = x then some t else σ y
def Env.del (σ : Env) (x : ByteArray) : Env := fun y => if y = x then none else σ y
def Env.dels (σ : Env) (xs : List ByteArray) : Env := xs.foldl Env.del σ

/-- terms upon terms: what is laid behind it; which variables were laid for it; does it fit -/
def uponGo (σ : Env) : List Tm → List Tm → Env × List ByteArray × Bool
  | t :: ts, u :: us =>
    if noVar t then (if sameT t u then uponGo σ ts us else (σ, [], false))
    else match σ t.v with
      | some o => if sameT o u then uponGo σ ts us else (σ, [], false)
      | none => let r := uponGo (σ.put t.v u) ts us; (r.1, t.v :: r.2.1, r.2.2)
  | _, _ => (σ, [], true)
def uponP (σ : Env) (a b : Atm) : Env × List ByteArray × Bool :=
  if a.rel = b.rel ∧ a.terms.length = b.terms.length then uponGo σ a.terms b.terms else (σ, [], false)

theorem uponGo_env : ∀ (ts us : List Tm) (σ : Env), (∀ x, x ∉ (uponGo σ ts us).2.1 → (uponGo σ ts us).1 x = σ x) ∧ ∀ x ∈ (uponGo σ ts us).2.1, σ x = none
  | [], _, σ => by simp [uponGo]
  | _ :: _, [], σ => by simp [uponGo]
  | t :: ts, u :: us, σ => by
    simp only [uponGo]
    split
    · split
      · exact uponGo_env ts us σ
      · simp
    · split
      · split
        · exact uponGo_env ts us σ
        · simp
      · rename_i hn
        obtain ⟨h1, h2⟩ := uponGo_env ts us (σ.put t.v u)
        refine ⟨fun x hx => ?_, fun x hx => ?_⟩
        · simp only [List.mem_cons, not_or] at hx
          rw [h1 x hx.2]
          simp [Env.put, hx.1]
        · simp only [List.mem_cons] at hx
          rcases hx with rfl | hx
          · exact hn
          · have := h2 x hx
            simp only [Env.put] at this
            split at this
            · cases this
            · exact this
theorem dels_get : ∀ (xs : List ByteArray) (σ : Env) (y : ByteArray), (y ∈ xs → σ.dels xs y = none) ∧ (y ∉ xs → σ.dels xs y = σ y)
  | [], σ, y => ⟨fun h => (by cases h), fun _ => rfl⟩
  | x :: xs, σ, y => by
    obtain ⟨h1, h2⟩ := dels_get xs (σ.del x) y
    have e : σ.dels (x :: xs) y = (σ.del x).dels xs y := rfl
    rw [e]
    refine ⟨fun h => ?_, fun h => ?_⟩
    · by_cases hm : y ∈ xs
      · exact h1 hm
      · rcases List.mem_cons.1 h with rfl | h
        · rw [h2 hm]; simp [Env.del]
        · exact absurd h hm
    · simp only [List.mem_cons, not_or] at h
      rw [h2 h.2]
      simp [Env.del, h.1]
/-- what was laid for it is struck out again -/
theorem uponP_back (σ : Env) (a b : Atm) : (uponP σ a b).1.dels (uponP σ a b).2.1 = σ := by
  funext y
  obtain ⟨g1, g2⟩ := dels_get (uponP σ a b).2.1 (uponP σ a b).1 y
  have hu : (∀ x, x ∉ (uponP σ a b).2.1 → (uponP σ a b).1 x = σ x) ∧ ∀ x ∈ (uponP σ a b).2.1, σ x = none := by
    unfold uponP
    split
    · exact uponGo_env a.terms b.terms σ
    · exact ⟨fun _ _ => rfl, fun _ h => by cases h⟩
  by_cases h : y ∈ (uponP σ a b).2.1
  · rw [g1 h, hu.2 y h]
  · rw [g2 h, hu.1 y h]

/-- the least list of images, or none -/
def layP (to : List Atm) : List Atm → Env → Option (List Nat)
  | [], _ => some []
  | a :: rest, σ => to.zipIdx.findSome? fun bj => if (uponP σ a bj.1).2.2 then (layP to rest (uponP σ a bj.1).1).map (bj.2 :: ·) else none
/-- from the image j on -/
def layFrom (to : List Atm) (a : Atm) (rest : List Atm) (σ : Env) (j : Nat) : Option (List Nat) :=
  ((to.drop j).zipIdx j).findSome? fun bj => if (uponP σ a bj.1).2.2 then (layP to rest (uponP σ a bj.1).1).map (bj.2 :: ·) else none
theorem layP_cons (to : List Atm) (a : Atm) (rest : List Atm) (σ : Env) : layP to (a :: rest) σ = layFrom to a rest σ 0 := by simp [layP, layFrom]
theorem layFrom_step {to : List Atm} {a : Atm} {rest : List Atm} {σ : Env} {j : Nat} {b : Atm} (h : to[j]? = some b) :
    layFrom to a rest σ j = match (if (uponP σ a b).2.2 then (layP to rest (uponP σ a b).1).map (j :: ·) else none) with
      | some l => some l
      | none => layFrom to a rest σ (j + 1) := by
  obtain ⟨hl, e⟩ := List.getElem?_eq_some_iff.1 h
  unfold layFrom
  rw [List.drop_eq_getElem_cons hl, e, List.zipIdx_cons, List.findSome?_cons]
  simp only
  generalize (if (uponP σ a b).2.2 = true then Option.map (fun x => j :: x) (layP to rest (uponP σ a b).1) else none) = o
  cases o <;> rfl
theorem layFrom_end {to : List Atm} {a : Atm} {rest : List Atm} {σ : Env} {j : Nat} (h : to.length ≤ j) : layFrom to a rest σ j = none := by
  unfold layFrom
  rw [List.drop_of_length_le h]; rfl

/-- the document's: what is laid when the first atoms have these images -/
def envIm (as_ to : List Atm) : List Nat → Nat → Env → Option Env
  | [], _, σ => some σ
  | j :: im, i, σ => match as_[i]?, to[j]? with
    | some a, some b => if (uponP σ a b).2.2 then envIm as_ to im (i + 1) (uponP σ a b).1 else none
    | _, _ => none
theorem envIm_snoc (as_ to : List Atm) (j : Nat) : ∀ (im : List Nat) (i : Nat) (σ : Env), envIm as_ to (im ++ [j]) i σ = match envIm as_ to im i σ with
    | none => none
    | some σ' => match as_[i + im.length]?, to[j]? with
      | some a, some b => if (uponP σ' a b).2.2 then some (uponP σ' a b).1 else none
      | _, _ => none
  | [], i, σ => by simp [envIm]
  | k :: im, i, σ => by
    simp only [List.cons_append, envIm]
    cases h1 : as_[i]? with
    | none => rfl
    | some a =>
      cases h2 : to[k]? with
      | none => rfl
      | some b =>
        simp only
        split
        · rw [envIm_snoc as_ to j im (i + 1)]
          simp [Nat.add_comm, Nat.add_left_comm]
        · rfl
def leastP (as_ to : List Atm) (σ : Env) (im : List Nat) : Option (List Nat) :=
  match envIm as_ to im 0 σ with
  | none => none
  | some σ' => (layP to (as_.drop im.length) σ').map (im ++ ·)
theorem leastP_end {as_ to : List Atm} {σ σ' : Env} {im : List Nat} (h : envIm as_ to im 0 σ = some σ') (hl : im.length = as_.length) : leastP as_ to σ im = some im := by
  simp [leastP, h, hl, layP]
theorem leastP_bad {as_ to : List Atm} {σ : Env} {im : List Nat} (h : envIm as_ to im 0 σ = none) : leastP as_ to σ im = none := by
  simp [leastP, h]
def leastFrom (as_ to : List Atm) (σ : Env) (im : List Nat) (j : Nat) : Option (List Nat) :=
  ((List.range' j (to.length - j))).findSome? fun k => leastP as_ to σ (im ++ [k])
theorem leastFrom_step {as_ to : List Atm} {σ : Env} {im : List Nat} {j : Nat} (h : j < to.length) :
    leastFrom as_ to σ im j = match leastP as_ to σ (im ++ [j]) with
      | some l => some l
      | none => leastFrom as_ to σ im (j + 1) := by
  unfold leastFrom
  rw [show to.length - j = (to.length - (j + 1)) + 1 by omega, List.range'_succ, List.findSome?_cons]
  cases leastP as_ to σ (im ++ [j]) <;> rfl
theorem leastFrom_end {as_ to : List Atm} {σ : Env} {im : List Nat} {j : Nat} (h : to.length ≤ j) : leastFrom as_ to σ im j = none := by
  unfold leastFrom
  rw [show to.length - j = 0 by omega]; rfl
theorem leastFrom_lay {as_ to : List Atm} {σ σ' : Env} {im : List Nat} {a : Atm} (h : envIm as_ to im 0 σ = some σ') (ha : as_[im.length]? = some a) : ∀ (k j : Nat), to.length - j = k →
    leastFrom as_ to σ im j = (layFrom to a (as_.drop (im.length + 1)) σ' j).map (im ++ ·)
  | 0, j, hk => by rw [leastFrom_end (by omega), layFrom_end (by omega)]; rfl
  | k + 1, j, hk => by
    have hj : j < to.length := by omega
    have hb : to[j]? = some to[j] := List.getElem?_eq_getElem hj
    have ih := leastFrom_lay h ha k (j + 1) (by omega)
    rw [leastFrom_step hj, layFrom_step hb, ih]
    have e : envIm as_ to (im ++ [j]) 0 σ = if (uponP σ' a to[j]).2.2 then some (uponP σ' a to[j]).1 else none := by
      rw [envIm_snoc, h]
      simp [ha, hb]
    unfold leastP
    rw [e]
    by_cases hu : (uponP σ' a to[j]).2.2 = true
    · simp only [hu, if_true, List.length_append, List.length_cons, List.length_nil]
      cases layP to (as_.drop (im.length + 1)) (uponP σ' a to[j]).1 <;> simp
    · simp only [hu, Bool.false_eq_true, if_false]
theorem leastP_step {as_ to : List Atm} {σ σ' : Env} {im : List Nat} (h : envIm as_ to im 0 σ = some σ') (hl : im.length < as_.length) : leastP as_ to σ im = leastFrom as_ to σ im 0 := by
  have ha : as_[im.length]? = some as_[im.length] := List.getElem?_eq_getElem hl
  rw [leastFrom_lay h ha _ 0 rfl, ← layP_cons]
  unfold leastP
  rw [h, List.drop_eq_getElem_cons hl]

/-- the head's variables upon the other head's -/
def env0 : List ByteArray → List ByteArray → Env → Env
  | x :: xs, y :: ys, σ => env0 xs ys (σ.put x ⟨y, ⟨0, 0, .empty⟩⟩)
  | _, _, σ => σ
def envNone : Env := fun _ => none
/-- Find, the lists of atoms and heads given -/
def findP (f t : Qy) : Option (List Nat) := layP t.atoms f.atoms (env0 f.head t.head envNone)
end Go.Proofs.Ythjpcnceppmnmaa
