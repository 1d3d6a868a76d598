/-
  Layings of one query upon another, as plain data: what the program finds and what the document defines.
  Valid: of a value, of a row: the program's and the document's.
  The shape of a query, as plain data.
  A laying is a map of variables; such maps compose; what a core is.
-/
import Derived.Test.YtpfjkjmimmklcaaGround
namespace Go.Proofs.Ytpfjkjmimmklcaa
open Go.RowKit

def sameT (a b : Tm) : Bool := decide (a.v = b.v) && sameV a.c b.c
theorem sameT_iff {a b : Tm} : sameT a b = true ↔ a = b := by
  obtain ⟨v, c⟩ := a
  obtain ⟨v', c'⟩ := b
  simp [sameT, sameV_iff]
theorem sameT_ne {a b : Tm} : sameT a b = false ↔ a ≠ b := by
  rw [Ne, ← sameT_iff]; simp
/-- no variable: a constant -/
def noVar (t : Tm) : Bool := t.v.toList.isEmpty

/-- what the variables are laid upon so far -/
abbrev Env : Type := ByteArray → Option Tm
def Env.put (σ : Env) (x : ByteArray) (t : Tm) : Env := fun y => if y = x then some t else σ y
def Env.del (σ : Env) (x : ByteArray) : Env := fun y => if y = x then none else σ y
def Env.dels (σ : Env) (xs : List ByteArray) : Env := xs.foldl Env.del σ

/-- terms upon terms: what is laid behind it; which variables were laid for it; does it fit -/
def uponGo (σ : Env) : List Tm → List Tm → Env × List ByteArray × Bool
  | t :: ts, u :: us =>
    if noVar t then (if sameT t u then uponGo σ ts us else (σ, [], false))
    else match σ t.v with
      | some o => if sameT o u then uponGo σ ts us else (σ, [], false)
      | none => let r := uponGo (σ.put t.v u) ts us; (r.1, t.v :: r.2.1, r.2.2)
  | _, _ => (σ, [], true)
def uponP (σ : Env) (a b : Atm) : Env × List ByteArray × Bool :=
  if a.rel = b.rel ∧ a.terms.length = b.terms.length then uponGo σ a.terms b.terms else (σ, [], false)

theorem uponGo_env : ∀ (ts us : List Tm) (σ : Env), (∀ x, x ∉ (uponGo σ ts us).2.1 → (uponGo σ ts us).1 x = σ x) ∧ ∀ x ∈ (uponGo σ ts us).2.1, σ x = none
  | [], _, σ => by simp [uponGo]
  | _ :: _, [], σ => by simp [uponGo]
  | t :: ts, u :: us, σ => by
    simp only [uponGo]
    split
    · split
      · exact uponGo_env ts us σ
      · simp
    · split
      · split
        · exact uponGo_env ts us σ
        · simp
      · rename_i hn
        obtain ⟨h1, h2⟩ := uponGo_env ts us (σ.put t.v u)
        refine ⟨fun x hx => ?_, fun x hx => ?_⟩
        · simp only [List.mem_cons, not_or] at hx
          rw [h1 x hx.2]
          simp [Env.put, hx.1]
        · simp only [List.mem_cons] at hx
          rcases hx with rfl | hx
          · exact hn
          · have := h2 x hx
            simp only [Env.put] at this
            split at this
            · cases this
            · exact this
theorem dels_get : ∀ (xs : List ByteArray) (σ : Env) (y : ByteArray), (y ∈ xs → σ.dels xs y = none) ∧ (y ∉ xs → σ.dels xs y = σ y)
  | [], σ, y => ⟨fun h => (by cases h), fun _ => rfl⟩
  | x :: xs, σ, y => by
    obtain ⟨h1, h2⟩ := dels_get xs (σ.del x) y
    have e : σ.dels (x :: xs) y = (σ.del x).dels xs y := rfl
    rw [e]
    refine ⟨fun h => ?_, fun h => ?_⟩
    · by_cases hm : y ∈ xs
      · exact h1 hm
      · rcases List.mem_cons.1 h with rfl | h
        · rw [h2 hm]; simp [Env.del]
        · exact absurd h hm
    · simp only [List.mem_cons, not_or] at h
      rw [h2 h.2]
      simp [Env.del, h.1]
/-- what was laid for it is struck out again -/
theorem uponP_back (σ : Env) (a b : Atm) : (uponP σ a b).1.dels (uponP σ a b).2.1 = σ := by
  funext y
  obtain ⟨g1, g2⟩ := dels_get (uponP σ a b).2.1 (uponP σ a b).1 y
  have hu : (∀ x, x ∉ (uponP σ a b).2.1 → (uponP σ a b).1 x = σ x) ∧ ∀ x ∈ (uponP σ a b).2.1, σ x = none := by
    unfold uponP
    split
    · exact uponGo_env a.terms b.terms σ
    · exact ⟨fun _ _ => rfl, fun _ h => by cases h⟩
  by_cases h : y ∈ (uponP σ a b).2.1
  · rw [g1 h, hu.2 y h]
  · rw [g2 h, hu.1 y h]

/-- the least list of images, or none -/
def layP (to : List Atm) : List Atm → Env → Option (List Nat)
  | [], _ => some []
  | a :: rest, σ => to.zipIdx.findSome? fun bj => if (uponP σ a bj.1).2.2 then (layP to rest (uponP σ a bj.1).1).map (bj.2 :: ·) else none
/-- from the image j on -/
def layFrom (to : List Atm) (a : Atm) (rest : List Atm) (σ : Env) (j : Nat) : Option (List Nat) :=
  ((to.drop j).zipIdx j).findSome? fun bj => if (uponP σ a bj.1).2.2 then (layP to rest (uponP σ a bj.1).1).map (bj.2 :: ·) else none
theorem layP_cons (to : List Atm) (a : Atm) (rest : List Atm) (σ : Env) : layP to (a :: rest) σ = layFrom to a rest σ 0 := by simp [layP, layFrom]
theorem layFrom_step {to : List Atm} {a : Atm} {rest : List Atm} {σ : Env} {j : Nat} {b : Atm} (h : to[j]? = some b) :
    layFrom to a rest σ j = match (if (uponP σ a b).2.2 then (layP to rest (uponP σ a b).1).map (j :: ·) else none) with
      | some l => some l
      | none => layFrom to a rest σ (j + 1) := by
  obtain ⟨hl, e⟩ := List.getElem?_eq_some_iff.1 h
  unfold layFrom
  rw [List.drop_eq_getElem_cons hl, e, List.zipIdx_cons, List.findSome?_cons]
  simp only
  generalize (if (uponP σ a b).2.2 = true then Option.map (fun x => j :: x) (layP to rest (uponP σ a b).1) else none) = o
  cases o <;> rfl
theorem layFrom_end {to : List Atm} {a : Atm} {rest : List Atm} {σ : Env} {j : Nat} (h : to.length ≤ j) : layFrom to a rest σ j = none := by
  unfold layFrom
  rw [List.drop_of_length_le h]; rfl

/-- the document's: what is laid when the first atoms have these images -/
def envIm (as_ to : List Atm) : List Nat → Nat → Env → Option Env
  | [], _, σ => some σ
  | j :: im, i, σ => match as_[i]?, to[j]? with
    | some a, some b => if (uponP σ a b).2.2 then envIm as_ to im (i + 1) (uponP σ a b).1 else none
    | _, _ => none
theorem envIm_snoc (as_ to : List Atm) (j : Nat) : ∀ (im : List Nat) (i : Nat) (σ : Env), envIm as_ to (im ++ [j]) i σ = match envIm as_ to im i σ with
    | none => none
    | some σ' => match as_[i + im.length]?, to[j]? with
      | some a, some b => if (uponP σ' a b).2.2 then some (uponP σ' a b).1 else none
      | _, _ => none
  | [], i, σ => by simp [envIm]
  | k :: im, i, σ => by
    simp only [List.cons_append, envIm]
    cases h1 : as_[i]? with
    | none => rfl
    | some a =>
      cases h2 : to[k]? with
      | none => rfl
      | some b =>
        simp only
        split
        · rw [envIm_snoc as_ to j im (i + 1)]
          simp [Nat.add_comm, Nat.add_left_comm]
        · rfl
def leastP (as_ to : List Atm) (σ : Env) (im : List Nat) : Option (List Nat) :=
  match envIm as_ to im 0 σ with
  | none => none
  | some σ' => (layP to (as_.drop im.length) σ').map (im ++ ·)
theorem leastP_end {as_ to : List Atm} {σ σ' : Env} {im : List Nat} (h : envIm as_ to im 0 σ = some σ') (hl : im.length = as_.length) : leastP as_ to σ im = some im := by
  simp [leastP, h, hl, layP]
theorem leastP_bad {as_ to : List Atm} {σ : Env} {im : List Nat} (h : envIm as_ to im 0 σ = none) : leastP as_ to σ im = none := by
  simp [leastP, h]
def leastFrom (as_ to : List Atm) (σ : Env) (im : List Nat) (j : Nat) : Option (List Nat) :=
  ((List.range' j (to.length - j))).findSome? fun k => leastP as_ to σ (im ++ [k])
theorem leastFrom_step {as_ to : List Atm} {σ : Env} {im : List Nat} {j : Nat} (h : j < to.length) :
    leastFrom as_ to σ im j = match leastP as_ to σ (im ++ [j]) with
      | some l => some l
      | none => leastFrom as_ to σ im (j + 1) := by
  unfold leastFrom
  rw [show to.length - j = (to.length - (j + 1)) + 1 by omega, List.range'_succ, List.findSome?_cons]
  cases leastP as_ to σ (im ++ [j]) <;> rfl
theorem leastFrom_end {as_ to : List Atm} {σ : Env} {im : List Nat} {j : Nat} (h : to.length ≤ j) : leastFrom as_ to σ im j = none := by
  unfold leastFrom
  rw [show to.length - j = 0 by omega]; rfl
theorem leastFrom_lay {as_ to : List Atm} {σ σ' : Env} {im : List Nat} {a : Atm} (h : envIm as_ to im 0 σ = some σ') (ha : as_[im.length]? = some a) : ∀ (k j : Nat), to.length - j = k →
    leastFrom as_ to σ im j = (layFrom to a (as_.drop (im.length + 1)) σ' j).map (im ++ ·)
  | 0, j, hk => by rw [leastFrom_end (by omega), layFrom_end (by omega)]; rfl
  | k + 1, j, hk => by
    have hj : j < to.length := by omega
    have hb : to[j]? = some to[j] := List.getElem?_eq_getElem hj
    have ih := leastFrom_lay h ha k (j + 1) (by omega)
    rw [leastFrom_step hj, layFrom_step hb, ih]
    have e : envIm as_ to (im ++ [j]) 0 σ = if (uponP σ' a to[j]).2.2 then some (uponP σ' a to[j]).1 else none := by
      rw [envIm_snoc, h]
      simp [ha, hb]
    unfold leastP
    rw [e]
    by_cases hu : (uponP σ' a to[j]).2.2 = true
    · simp only [hu, if_true, List.length_append, List.length_cons, List.length_nil]
      cases layP to (as_.drop (im.length + 1)) (uponP σ' a to[j]).1 <;> simp
    · simp only [hu, Bool.false_eq_true, if_false]
theorem leastP_step {as_ to : List Atm} {σ σ' : Env} {im : List Nat} (h : envIm as_ to im 0 σ = some σ') (hl : im.length < as_.length) : leastP as_ to σ im = leastFrom as_ to σ im 0 := by
  have ha : as_[im.length]? = some as_[im.length] := List.getElem?_eq_getElem hl
  rw [leastFrom_lay h ha _ 0 rfl, ← layP_cons]
  unfold leastP
  rw [h, List.drop_eq_getElem_cons hl]

/-- the head's variables upon the other head's -/
def env0 : List ByteArray → List ByteArray → Env → Env
  | x :: xs, y :: ys, σ => env0 xs ys (σ.put x ⟨y, ⟨0, 0, .empty⟩⟩)
  | _, _, σ => σ
def envNone : Env := fun _ => none
/-- Find, the lists of atoms and heads given -/
def findP (f t : Qy) : Option (List Nat) := layP t.atoms f.atoms (env0 f.head t.head envNone)
end Go.Proofs.Ytpfjkjmimmklcaa

namespace Go.Proofs.Ytpfjkjmimmklcaa
open Go.RowKit

def validV (v : V) : Bool := if v.k = 1 then v.t.toList.isEmpty else if v.k = 2 then (if v.i = 0 then decide ((v.t.size : Int) ≤ 64) else false) else false
def validR (r : List V) : Bool := decide (r.length ≤ 30) && r.all validV

set_option maxRecDepth 100000 in
theorem val_valid (v : V) (w : World) (hs : v.t.size ≤ 1048576) : Calls Try.prog 104 #[v.val] w fun e w' => e = .returned (.bool (validV v)) ∧ Ext w w' := by
  obtain ⟨k, i, t⟩ := v
  simp only [V.val]
  dsimp only at hs
  by_cases h1 : k = 1
  · subst h1
    go_enter Try.func104, Try.ntmps104
    go_wp2
    go_ret
    exact ⟨ret_bool (by simp [validV]), Ext.alloc _ _⟩
  · have h1' : (k == 1) = false := by simpa using h1
    have H1 := hide h1; clear h1
    by_cases h2 : k = 2
    · subst h2
      clear H1
      by_cases h3 : i = 0
      · subst h3
        go_enter Try.func104, Try.ntmps104
        go_wp2
        go_ret
        exact ⟨ret_bool (by simp [validV]), Ext.alloc _ _⟩
      · have h3' : (i == 0) = false := by simpa using h3
        have H3 := hide h3; clear h3
        go_enter Try.func104, Try.ntmps104
        go_wp2
        go_ret
        exact ⟨ret_bool (by simp [validV, H3.out]), Ext.alloc _ _⟩
    · have h2' : (k == 2) = false := by simpa using h2
      have H2 := hide h2; clear h2
      go_enter Try.func104, Try.ntmps104
      go_wp2
      go_ret
      exact ⟨ret_bool (by simp [validV, H1.out, H2.out]), Ext.alloc _ _⟩

theorem size0 (t : ByteArray) : ((t.size : Int) == 0) = t.toList.isEmpty := by
  rw [ByteArray.toList_eq, Bool.eq_iff_iff, List.isEmpty_iff]
  simp only [beq_iff_eq]
  have : t.data.toList.length = t.size := Array.length_toList
  constructor
  · intro h; exact List.eq_nil_of_length_eq_zero (by omega)
  · intro h; rw [h] at this; simp at this; omega

set_option maxRecDepth 100000 in
theorem ref_val_valid (v : V) (w : World) (hs : v.t.size ≤ 1048576) : Calls Try.prog 48 #[v.val] w fun e w' => e = .returned (.bool (validV v)) ∧ Ext w w' := by
  obtain ⟨k, i, t⟩ := v
  simp only [V.val]
  dsimp only at hs
  by_cases h1 : k = 1
  · subst h1
    have hz := hide (size0 t)
    go_enter Try.func48, Try.ntmps48
    go_wp2
    go_ret
    exact ⟨ret_bool (by simp [validV, ← hz.out]), Ext.alloc _ _⟩
  · have h1' : (k == 1) = false := by simpa using h1
    have H1 := hide h1; clear h1
    by_cases h2 : k = 2
    · subst h2
      clear H1
      by_cases h3 : i = 0
      · subst h3
        go_enter Try.func48, Try.ntmps48
        go_wp2
        go_ret
        exact ⟨ret_bool (by simp [validV]), Ext.alloc _ _⟩
      · have h3' : (i == 0) = false := by simpa using h3
        have H3 := hide h3; clear h3
        go_enter Try.func48, Try.ntmps48
        go_wp2
        go_ret
        exact ⟨ret_bool (by simp [validV, H3.out]), Ext.alloc _ _⟩
    · have h2' : (k == 2) = false := by simpa using h2
      have H2 := hide h2; clear h2
      go_enter Try.func48, Try.ntmps48
      go_wp2
      go_ret
      exact ⟨ret_bool (by simp [validV, H1.out, H2.out]), Ext.alloc _ _⟩
end Go.Proofs.Ytpfjkjmimmklcaa

namespace Go.Proofs.Ytpfjkjmimmklcaa
open Go.RowKit

/-- the first place at which p holds, or -1 -/
def firstI {α : Type} (p : α → Bool) : List α → Nat → Int
  | [], _ => -1
  | x :: r, i => if p x then i else firstI p r (i + 1)
theorem firstI_drop {α : Type} (p : α → Bool) (r : List α) (i : Nat) (x : α) (h : r[i]? = some x) : firstI p (r.drop i) i = if p x then (i : Int) else firstI p (r.drop (i + 1)) (i + 1) := by
  obtain ⟨h, e⟩ := List.getElem?_eq_some_iff.1 h
  rw [List.drop_eq_getElem_cons h, e]; rfl
theorem firstI_iff {α : Type} (p : α → Bool) : ∀ (r : List α) (i : Nat), 0 ≤ firstI p r i ↔ r.any p = true
  | [], _ => by simp [firstI]
  | x :: r, i => by
    have ih := firstI_iff p r (i + 1)
    by_cases h : p x = true
    · simp [firstI, h]
    · simp only [firstI, h, List.any_cons, Bool.false_or]; exact ih
theorem firstI_any {α : Type} (p : α → Bool) (r : List α) (i : Nat) : decide (0 ≤ firstI p r i) = r.any p := by
  rw [Bool.eq_iff_iff, decide_eq_true_iff, firstI_iff]
theorem firstI_neg {α : Type} (p : α → Bool) (r : List α) (i : Nat) : (firstI p r i < 0) ↔ r.any p = false := by
  have := firstI_iff p r i
  rw [← Bool.not_eq_true, ← this]; omega
theorem firstI_some {α : Type} (p : α → Bool) : ∀ (r : List α) (i : Nat), 0 ≤ firstI p r i → ∃ (k : Nat) (x : α), firstI p r i = ((i + k : Nat) : Int) ∧ r[k]? = some x ∧ p x = true ∧ ∀ (j : Nat) (y : α), j < k → r[j]? = some y → p y = false
  | [], i, h => by simp [firstI] at h
  | x :: r, i, h => by
    by_cases hp : p x = true
    · exact ⟨0, x, by simp [firstI, hp], rfl, hp, fun j y hj => by omega⟩
    · have hp' : p x = false := by simpa using hp
      simp only [firstI, hp', Bool.false_eq_true, if_false] at h ⊢
      obtain ⟨k, y, h1, h2, h3, h4⟩ := firstI_some p r (i + 1) h
      refine ⟨k + 1, y, by rw [h1]; congr 1; omega, by simpa using h2, h3, fun j z hj hz => ?_⟩
      cases j with
      | zero =>
        obtain rfl : x = z := by simpa using hz
        exact hp'
      | succ j => exact h4 j z (by omega) (by simpa using hz)
theorem firstI_le {α : Type} (p : α → Bool) (r : List α) (i : Nat) : -1 ≤ firstI p r i ∧ firstI p r i ≤ (i + r.length : Nat) := by
  rcases Classical.em (0 ≤ firstI p r i) with h | h
  · obtain ⟨k, x, h1, h2, _⟩ := firstI_some p r i h
    have := (List.getElem?_eq_some_iff.1 h2).1
    omega
  · have : ∀ (r : List α) (i : Nat), ¬ 0 ≤ firstI p r i → firstI p r i = -1 := by
      intro r
      induction r with
      | nil => intro i _; rfl
      | cons x r ih =>
        intro i h
        simp only [firstI] at h ⊢
        split
        · rename_i hp; simp only [hp, if_true] at h; omega
        · rename_i hp; simp only [hp, Bool.false_eq_true, if_false] at h; exact ih _ h
    have := this r i h
    omega

/-- the text stands in the list -/
def eqB (x : ByteArray) : ByteArray → Bool := fun y => decide (y = x)
def memB (l : List ByteArray) (x : ByteArray) : Bool := l.any (eqB x)
theorem memB_iff {l : List ByteArray} {x : ByteArray} : memB l x = true ↔ x ∈ l := by simp [memB, eqB, List.any_eq_true]

def letterB (c : UInt8) : Bool := (decide (97 ≤ c.toNat) && decide (c.toNat ≤ 122)) || (decide (65 ≤ c.toNat) && decide (c.toNat ≤ 90)) || decide (c.toNat = 95)
def digitB (c : UInt8) : Bool := decide (48 ≤ c.toNat) && decide (c.toNat ≤ 57)
def partB (c : UInt8) : Bool := letterB c || digitB c
def headB (l : List UInt8) : Bool := match l with | [] => false | c :: _ => letterB c
/-- is it a name? -/
def nameB (s : ByteArray) : Bool := headB s.data.toList && s.data.toList.all partB && decide (s.size ≤ 16)

def nameT (t : Tm) : Bool := noVar t || nameB t.v
def nameA (a : Atm) : Bool := nameB a.rel && a.terms.all nameT
def badNameQ (q : Qy) : Bool := !(nameB q.name && q.head.all nameB && q.atoms.all nameA)
def zeroV : V := ⟨0, 0, .empty⟩
def badT (t : Tm) : Bool := if noVar t then !validV t.c else !sameV t.c zeroV
def badA (a : Atm) : Bool := a.terms.any badT
def wideA (a : Atm) : Bool := decide (5 < a.terms.length)

/-- the variables of terms, each once, behind those that are there -/
def addT (acc : List ByteArray) (t : Tm) : List ByteArray := if noVar t then acc else if memB acc t.v then acc else acc ++ [t.v]
def addTs (acc : List ByteArray) (ts : List Tm) : List ByteArray := ts.foldl addT acc
def varsA (a : Atm) : List ByteArray := addTs [] a.terms
def varsQ (q : Qy) : List ByteArray := q.atoms.foldl (fun acc a => addTs acc a.terms) []
def addV (acc : List ByteArray) (v : ByteArray) : List ByteArray := if memB acc v then acc else acc ++ [v]
theorem addTs_append (acc : List ByteArray) (a b : List Tm) : addTs acc (a ++ b) = addTs (addTs acc a) b := by simp [addTs]
theorem varsQ_flat (q : Qy) : varsQ q = addTs [] (q.atoms.flatMap (·.terms)) := by
  unfold varsQ
  suffices h : ∀ (as_ : List Atm) (acc : List ByteArray), as_.foldl (fun acc a => addTs acc a.terms) acc = addTs acc (as_.flatMap (·.terms)) from h _ _
  intro as_
  induction as_ with
  | nil => intro acc; rfl
  | cons a r ih => intro acc; rw [List.foldl_cons, ih, List.flatMap_cons, addTs_append]
theorem memB_addT {acc : List ByteArray} {t : Tm} {x : ByteArray} (h : memB acc x = true) : memB (addT acc t) x = true := by
  rw [memB_iff] at *
  unfold addT
  split
  · exact h
  · split
    · exact h
    · exact List.mem_append_left _ h
/-- adding an atom's variables is adding its terms -/
theorem addV_addTs (acc : List ByteArray) : ∀ (ts : List Tm) (pre : List ByteArray), (addTs pre ts).foldl addV acc = addTs (pre.foldl addV acc) ts
  | [], pre => rfl
  | t :: ts, pre => by
    have ih := addV_addTs acc ts (addT pre t)
    have e1 : addTs pre (t :: ts) = addTs (addT pre t) ts := rfl
    have e2 : addTs (pre.foldl addV acc) (t :: ts) = addTs (addT (pre.foldl addV acc) t) ts := rfl
    rw [e1, e2, ih]
    congr 1
    have sub : ∀ (l a : List ByteArray) (x : ByteArray), x ∈ a ∨ x ∈ l → x ∈ l.foldl addV a := by
      intro l
      induction l with
      | nil => intro a x h; simpa using h
      | cons y l ih =>
        intro a x h
        refine ih _ x ?_
        simp only [List.mem_cons] at h
        unfold addV
        split
        · rename_i hm
          rcases h with h | rfl | h
          · exact .inl h
          · exact .inl (memB_iff.1 hm)
          · exact .inr h
        · rcases h with h | rfl | h
          · exact .inl (List.mem_append_left _ h)
          · exact .inl (by simp)
          · exact .inr h
    unfold addT
    by_cases h1 : noVar t = true
    · simp [h1]
    · simp only [h1, Bool.false_eq_true, if_false]
      by_cases h2 : memB pre t.v = true
      · have h3 : memB (pre.foldl addV acc) t.v = true := memB_iff.2 (sub _ _ _ (.inr (memB_iff.1 h2)))
        simp [h2, h3]
      · simp only [h2, Bool.false_eq_true, if_false, List.foldl_append, List.foldl_cons, List.foldl_nil]
        rfl
theorem varsQ_step (acc : List ByteArray) (a : Atm) : (varsA a).foldl addV acc = addTs acc a.terms := addV_addTs acc a.terms []

/-- the first variable of the list that stood there before, or -1 -/
def dblI (l : List ByteArray) : Nat → List ByteArray → Int
  | _, [] => -1
  | i, x :: r => if memB (l.take i) x then i else dblI l (i + 1) r
theorem dblI_drop {l : List ByteArray} {i : Nat} {x : ByteArray} (h : l[i]? = some x) : dblI l i (l.drop i) = if memB (l.take i) x then (i : Int) else dblI l (i + 1) (l.drop (i + 1)) := by
  obtain ⟨h, e⟩ := List.getElem?_eq_some_iff.1 h
  rw [List.drop_eq_getElem_cons h, e]; rfl
theorem dblI_neg (l : List ByteArray) : ∀ (r : List ByteArray) (i : Nat), l.drop i = r → (dblI l i r < 0 ↔ ∀ (j : Nat) (x : ByteArray), i ≤ j → l[j]? = some x → memB (l.take j) x = false)
  | [], i, hr => by
    have : l.length ≤ i := by simpa using hr
    simp only [dblI]
    refine ⟨fun _ j x hj hx => ?_, fun _ => by omega⟩
    have := (List.getElem?_eq_some_iff.1 hx).1
    omega
  | x :: r, i, hr => by
    have hl : i < l.length := by
      rcases Nat.lt_or_ge i l.length with h | h
      · exact h
      · rw [List.drop_of_length_le h] at hr; cases hr
    rw [List.drop_eq_getElem_cons hl] at hr
    injection hr with h1 h2
    have hx : l[i]? = some x := by rw [List.getElem?_eq_getElem hl, h1]
    have ih := dblI_neg l r (i + 1) h2
    by_cases hm : memB (l.take i) x = true
    · simp only [dblI, hm, if_true]
      refine ⟨fun h => by omega, fun h => ?_⟩
      have := h i x (Nat.le_refl _) hx
      rw [hm] at this; cases this
    · have hm' : memB (l.take i) x = false := by simpa using hm
      simp only [dblI, hm', Bool.false_eq_true, if_false]
      rw [ih]
      refine ⟨fun h j y hj hy => ?_, fun h j y hj hy => h j y (by omega) hy⟩
      rcases Nat.lt_or_ge i j with hij | hij
      · exact h j y hij hy
      · obtain rfl : j = i := by omega
        rw [hx] at hy
        injection hy with hy
        rw [← hy]; exact hm'
def dblB (l : List ByteArray) : Bool := decide (0 ≤ dblI l 0 l)
def unsafeI (q : Qy) : Int := firstI (fun h => !memB (varsQ q) h) q.head 0
def unsafeB (q : Qy) : Bool := q.head.any fun h => !memB (varsQ q) h

/-- what is wrong in a query by itself -/
def shapeQ (q : Qy) : Int :=
  if badNameQ q then 72 else if q.atoms.any badA then 21 else if q.atoms.length = 0 ∨ 6 < q.atoms.length then 90
  else if q.atoms.any wideA then 91 else if dblB q.head then 92 else if unsafeB q then 93 else 0
end Go.Proofs.Ytpfjkjmimmklcaa

namespace Go.Proofs.Ytpfjkjmimmklcaa

/-- a map of variables, at a term -/
def app (h : ByteArray → Tm) (t : Tm) : Tm := if noVar t then t else h t.v
def onto (h : ByteArray → Tm) (a b : Atm) : Prop := a.rel = b.rel ∧ b.terms = a.terms.map (app h)
def Agrees (σ : Env) (h : ByteArray → Tm) : Prop := ∀ x t, σ x = some t → h x = t

theorem uponGo_sound : ∀ (ts us : List Tm) (σ : Env), ts.length = us.length → (uponGo σ ts us).2.2 = true → (∀ h, Agrees (uponGo σ ts us).1 h → Agrees σ h ∧ us = ts.map (app h))
  | [], us, σ, hl, _, h, ha => by
    have : us = [] := List.eq_nil_of_length_eq_zero (by simpa using hl.symm)
    subst this
    exact ⟨by simpa [uponGo] using ha, rfl⟩
  | t :: ts, [], σ, hl, _, _, _ => by simp at hl
  | t :: ts, u :: us, σ, hl, hok, h, ha => by
    simp only [uponGo] at hok ha
    simp only [List.length_cons, Nat.add_right_cancel_iff] at hl
    by_cases h1 : noVar t = true
    · simp only [h1, if_true] at hok ha
      by_cases h2 : sameT t u = true
      · simp only [h2, if_true] at hok ha
        obtain ⟨e1, e2⟩ := uponGo_sound ts us σ hl hok h ha
        refine ⟨e1, ?_⟩
        rw [List.map_cons, ← e2]
        have : app h t = u := by rw [← sameT_iff.1 h2]; simp [app, h1]
        rw [this]
      · simp [h2] at hok
    · simp only [h1, Bool.false_eq_true, if_false] at hok ha
      cases hs : σ t.v with
      | some o =>
        simp only [hs] at hok ha
        by_cases h2 : sameT o u = true
        · simp only [h2, if_true] at hok ha
          obtain ⟨e1, e2⟩ := uponGo_sound ts us σ hl hok h ha
          refine ⟨e1, ?_⟩
          rw [List.map_cons, ← e2]
          have : app h t = u := by simp [app, h1, e1 _ _ hs, sameT_iff.1 h2]
          rw [this]
        · simp [h2] at hok
      | none =>
        simp only [hs] at hok ha
        obtain ⟨e1, e2⟩ := uponGo_sound ts us (σ.put t.v u) hl hok h ha
        refine ⟨fun x v hx => e1 x v ?_, ?_⟩
        · unfold Env.put
          split
          · rename_i e; rw [e, hs] at hx; cases hx
          · exact hx
        · rw [List.map_cons, ← e2]
          have : h t.v = u := e1 t.v u (by simp [Env.put])
          simp [app, h1, this]
theorem uponGo_full : ∀ (ts us : List Tm) (σ : Env) (h : ByteArray → Tm), Agrees σ h → us = ts.map (app h) → (uponGo σ ts us).2.2 = true ∧ Agrees (uponGo σ ts us).1 h
  | [], us, σ, h, ha, hu => by simp [uponGo]; exact ha
  | t :: ts, [], σ, h, _, hu => by simp at hu
  | t :: ts, u :: us, σ, h, ha, hu => by
    simp only [List.map_cons, List.cons.injEq] at hu
    obtain ⟨h0, hu⟩ := hu
    simp only [uponGo]
    by_cases h1 : noVar t = true
    · have : t = u := by simpa [app, h1] using h0.symm
      simp only [h1, if_true, sameT_iff.2 this]
      exact uponGo_full ts us σ h ha hu
    · have hv : h t.v = u := by simpa [app, h1] using h0.symm
      simp only [h1, Bool.false_eq_true, if_false]
      cases hs : σ t.v with
      | some o =>
        have : o = u := (ha _ _ hs).symm.trans hv
        simp only [sameT_iff.2 this, if_true]
        exact uponGo_full ts us σ h ha hu
      | none =>
        refine uponGo_full ts us (σ.put t.v u) h (fun x v hx => ?_) hu
        unfold Env.put at hx
        split at hx
        · rename_i e; injection hx with hx; rw [e, hv, hx]
        · exact ha x v hx
theorem uponP_sound {σ : Env} {a b : Atm} (hok : (uponP σ a b).2.2 = true) {h : ByteArray → Tm} (ha : Agrees (uponP σ a b).1 h) : Agrees σ h ∧ onto h a b := by
  unfold uponP at hok ha
  split at hok
  · rename_i hc
    simp only [hc, and_self, if_true] at ha
    obtain ⟨e1, e2⟩ := uponGo_sound _ _ _ hc.2 hok h ha
    exact ⟨e1, hc.1, e2⟩
  · cases hok
theorem uponP_full {σ : Env} {a b : Atm} {h : ByteArray → Tm} (ha : Agrees σ h) (ho : onto h a b) : (uponP σ a b).2.2 = true ∧ Agrees (uponP σ a b).1 h := by
  have hl : a.terms.length = b.terms.length := by rw [ho.2, List.length_map]
  unfold uponP
  rw [if_pos ⟨ho.1, hl⟩]
  exact uponGo_full _ _ _ _ ha ho.2

theorem zipIdx_mem {α : Type} {l : List α} {x : α} (h : x ∈ l) : ∃ i, (x, i) ∈ l.zipIdx := by
  obtain ⟨i, hi, e⟩ := List.getElem_of_mem h
  exact ⟨i, by rw [List.mk_mem_zipIdx_iff_getElem?, List.getElem?_eq_getElem hi, e]⟩
theorem layP_iff (to : List Atm) : ∀ (as_ : List Atm) (σ : Env), (layP to as_ σ).isSome = true ↔ ∃ h, Agrees σ h ∧ ∀ a ∈ as_, ∃ b ∈ to, onto h a b
  | [], σ => by
    simp only [layP, Option.isSome_some, true_iff]
    refine ⟨fun x => (σ x).getD ⟨x, zeroV⟩, fun x t hx => by simp [hx], fun a ha => by cases ha⟩
  | a :: as_, σ => by
    simp only [layP, List.isSome_findSome?, List.any_eq_true]
    constructor
    · rintro ⟨⟨b, j⟩, hm, hs⟩
      by_cases hok : (uponP σ a b).2.2 = true
      · simp only [hok, if_true, Option.isSome_map] at hs
        obtain ⟨h, ha, hall⟩ := (layP_iff to as_ _).1 hs
        obtain ⟨e1, e2⟩ := uponP_sound hok ha
        refine ⟨h, e1, fun a' ha' => ?_⟩
        rcases List.mem_cons.1 ha' with rfl | ha'
        · exact ⟨b, List.fst_mem_of_mem_zipIdx hm, e2⟩
        · exact hall a' ha'
      · simp [hok] at hs
    · rintro ⟨h, ha, hall⟩
      obtain ⟨b, hb, ho⟩ := hall a (by simp)
      obtain ⟨j, hj⟩ := zipIdx_mem hb
      obtain ⟨e1, e2⟩ := uponP_full ha ho
      refine ⟨(b, j), hj, ?_⟩
      simp only [e1, if_true, Option.isSome_map]
      exact (layP_iff to as_ _).2 ⟨h, e2, fun a' ha' => hall a' (by simp [ha'])⟩

/-- the heads lie upon each other -/
def headOn (h : ByteArray → Tm) (xs ys : List ByteArray) : Prop := ∀ (i : Nat) (x y : ByteArray), xs[i]? = some x → ys[i]? = some y → h x = ⟨y, zeroV⟩
theorem env0_agrees : ∀ (xs ys : List ByteArray) (σ : Env) (h : ByteArray → Tm), xs.Nodup → (∀ x ∈ xs, σ x = none) → (Agrees (env0 xs ys σ) h ↔ Agrees σ h ∧ headOn h xs ys)
  | [], ys, σ, h, _, _ => by simp [env0, headOn]
  | x :: xs, [], σ, h, _, _ => by simp [env0, headOn]
  | x :: xs, y :: ys, σ, h, hn, hs => by
    rw [List.nodup_cons] at hn
    have hsx : σ x = none := hs x (by simp)
    simp only [env0]
    rw [env0_agrees xs ys _ h hn.2 (fun z hz => by
      have : z ≠ x := fun e => hn.1 (e ▸ hz)
      simp [Env.put, this, hs z (by simp [hz])])]
    constructor
    · rintro ⟨h1, h2⟩
      refine ⟨fun z t hz => h1 z t ?_, fun i a b ha hb => ?_⟩
      · unfold Env.put
        split
        · rename_i e; rw [e, hsx] at hz; cases hz
        · exact hz
      · cases i with
        | zero =>
          obtain rfl : x = a := by simpa using ha
          obtain rfl : y = b := by simpa using hb
          exact h1 _ _ (by simp [Env.put, zeroV])
        | succ i => exact h2 i a b (by simpa using ha) (by simpa using hb)
    · rintro ⟨h1, h2⟩
      refine ⟨fun z t hz => ?_, fun i a b ha hb => h2 (i + 1) a b (by simpa using ha) (by simpa using hb)⟩
      unfold Env.put at hz
      split at hz
      · rename_i e
        injection hz with hz
        rw [e, ← hz]
        exact h2 0 x y rfl rfl
      · exact h1 z t hz

/-- f lies upon t -/
def Lies (f t : Qy) : Prop := ∃ h, headOn h f.head t.head ∧ ∀ a ∈ f.atoms, ∃ b ∈ t.atoms, onto h a b
theorem findP_iff {f t : Qy} (hn : f.head.Nodup) : (findP f t).isSome = true ↔ Lies f t := by
  unfold findP
  rw [layP_iff]
  have := fun h => env0_agrees f.head t.head envNone h hn (fun _ _ => rfl)
  constructor
  · rintro ⟨h, ha, hall⟩
    exact ⟨h, ((this h).1 ha).2, hall⟩
  · rintro ⟨h, ha, hall⟩
    exact ⟨h, (this h).2 ⟨fun x t hx => by simp [envNone] at hx, ha⟩, hall⟩

theorem app_app (h g : ByteArray → Tm) (t : Tm) : app g (app h t) = app (fun x => app g (h x)) t := by
  unfold app
  by_cases h1 : noVar t = true <;> simp [h1]
theorem Lies.trans {a b c : Qy} (hb : ∀ x ∈ b.head, x.toList.isEmpty = false) (hl : a.head.length = b.head.length) (h1 : Lies a b) (h2 : Lies b c) : Lies a c := by
  obtain ⟨h, hh, ha⟩ := h1
  obtain ⟨g, gh, ga⟩ := h2
  refine ⟨fun x => app g (h x), fun i x z hx hz => ?_, fun p hp => ?_⟩
  · have hi : i < b.head.length := by rw [← hl]; exact (List.getElem?_eq_some_iff.1 hx).1
    have hy : b.head[i]? = some b.head[i] := List.getElem?_eq_getElem hi
    show app g (h x) = _
    rw [hh i x _ hx hy]
    have := hb _ (List.getElem_mem hi)
    simp only [app, noVar, this, Bool.false_eq_true, if_false]
    exact gh i _ z hy hz
  · obtain ⟨q, hq, e1, e2⟩ := ha p hp
    obtain ⟨r, hr, e3, e4⟩ := ga q hq
    refine ⟨r, hr, e1.trans e3, ?_⟩
    rw [e4, e2, List.map_map]
    apply List.map_congr_left
    intro t _
    exact app_app h g t
/-- a variable's term holds no constant -/
def cleanQ (q : Qy) : Prop := ∀ a ∈ q.atoms, ∀ t ∈ a.terms, noVar t = false → t.c = zeroV
def idH (x : ByteArray) : Tm := ⟨x, zeroV⟩
theorem app_id {t : Tm} (h : noVar t = false → t.c = zeroV) : app idH t = t := by
  unfold app
  by_cases h1 : noVar t = true
  · simp [h1]
  · have h1' : noVar t = false := by simpa using h1
    simp only [h1', Bool.false_eq_true, if_false, idH]
    rw [← h h1']
theorem onto_id {q : Qy} (hc : cleanQ q) {a : Atm} (ha : a ∈ q.atoms) : onto idH a a := by
  refine ⟨rfl, ?_⟩
  have : a.terms.map (app idH) = a.terms.map id := List.map_congr_left fun t ht => app_id (hc a ha t ht)
  rw [this, List.map_id]
theorem Lies.sub {a b : Qy} (hc : cleanQ a) (hh : a.head = b.head) (hs : ∀ x ∈ a.atoms, x ∈ b.atoms) : Lies a b :=
  ⟨idH, fun i x y hx hy => by rw [hh] at hx; rw [hx] at hy; injection hy with hy; rw [hy]; rfl, fun x hx => ⟨x, hs x hx, onto_id hc hx⟩⟩
end Go.Proofs.Ytpfjkjmimmklcaa
