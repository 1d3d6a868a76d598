/-
  hashidx: the hash of a key.
  hashidx: the plain law of a table with open addressing.
-/
import Derived.Test.YtahdiiaadjdmcaaGround
import Derived.Laws.Bits64
import Derived.Laws.BitsAll
namespace Go.Proofs.Ytahdiiaadjdmcaa
open Go.RowKit

/-- a key: its bytes lie in memory -/
def bytC (k : List UInt8) : List Value := k.map fun b => .int .u8 (b.toNat : Int)
def KeyAt (w : World) (A : Option Addr) (n : Nat) (k : List UInt8) : Prop := Sl w A n 1 (bytC k)
theorem KeyAt.len {w : World} {A : Option Addr} {n : Nat} {k : List UInt8} (h : KeyAt w A n k) : n = k.length := by
  have := h.1
  simp [bytC] at this
  omega
theorem KeyAt.ext {w w' : World} {A : Option Addr} {n : Nat} {k : List UInt8} (h : KeyAt w A n k) (hw : Ext w w') : KeyAt w' A n k := Sl.ext h hw
theorem KeyAt.get {w : World} {A : Option Addr} {n : Nat} {k : List UInt8} (h : KeyAt w A n k) {i : Nat} (hi : i < n) : ∃ b off x, A = some ⟨b, off, none⟩ ∧ k[i]? = some x ∧ w.cell? ⟨b, off + i, none⟩ = some (.int .u8 (x.toNat : Int)) := by
  obtain ⟨b, off, hA, hc⟩ := h.2 (by omega)
  have hl : i < k.length := by have := h.len; omega
  exact ⟨b, off, k[i], hA, List.getElem?_eq_getElem hl, hc i _ (by simp [bytC, hl])⟩

/-- FNV-1a, folded once -/
def hstep (h : Nat) (x : UInt8) : Nat := (h ^^^ x.toNat) * 1099511628211 % 18446744073709551616
def hfin (h : Nat) : Nat := h ^^^ (h / 4294967296)
def hashN (k : List UInt8) : Nat := hfin (k.foldl hstep 14695981039346656037)
theorem hstep_lt (h : Nat) (x : UInt8) : hstep h x < 18446744073709551616 := Nat.mod_lt _ (by omega)
theorem hstep_eq (H : Nat) (x : UInt8) (hH : H < 18446744073709551616) : IntKind.u64.wrap (bits BinOp.xor IntKind.u64 (H : Int) (IntKind.u64.wrap (x.toNat : Int)) * 1099511628211) = ((hstep H x : Nat) : Int) := by
  have hx : x.toNat < 256 := x.toNat_lt
  rw [show IntKind.u64.wrap (x.toNat : Int) = ((x.toNat : Nat) : Int) by rw [IntKind.wrap_u64]; omega, bits_xor_u64_nat _ _ hH (by omega), IntKind.wrap_u64]
  unfold hstep
  generalize H ^^^ x.toNat = y
  omega
theorem hfin_eq (H : Nat) (hH : H < 18446744073709551616) : bits BinOp.xor IntKind.u64 (H : Int) ((H : Int) / 4294967296) = ((hfin H : Nat) : Int) := by
  rw [show (H : Int) / 4294967296 = ((H / 4294967296 : Nat) : Int) by omega, bits_xor_u64_nat _ _ hH (by omega)]
  rfl
theorem hfin_lt (H : Nat) (hH : H < 18446744073709551616) : hfin H < 18446744073709551616 := by
  unfold hfin
  have h2 : H / 4294967296 < 2 ^ 64 := by omega
  exact Nat.xor_lt_two_pow (n := 64) hH h2
theorem fold_lt : ∀ (k : List UInt8) (h : Nat), h < 18446744073709551616 → k.foldl hstep h < 18446744073709551616
  | [], _, h => h
  | x :: k, h, _ => fold_lt k _ (hstep_lt h x)
theorem hashN_lt (k : List UInt8) : hashN k < 18446744073709551616 := hfin_lt _ (fold_lt k _ (by omega))

set_option maxRecDepth 100000 in
theorem hash_any (k : List UInt8) (A : Option Addr) (n c : Nat) (w : World) (hk : KeyAt w A n k) (hn : n ≤ 4611686018427387904) :
    Calls Try.prog 51 #[.slice A n c] w fun e w' => e = .returned (.int .u64 ((hashN k : Nat) : Int)) ∧ w = w' := by
  have HK := hide hk; have HL := hide hk.len; clear hk
  go_enter Try.func51, Try.ntmps51
  go_wp2_with fail
  go_loop [3, 5, 8] (fun h b i => ∃ (j H : Nat), j ≤ n ∧ i = .int .i64 j ∧ h = .int .u64 H ∧ H < 18446744073709551616 ∧ Hid (hashN k = hfin ((k.drop j).foldl hstep H))) (fun _ _ i => n - (intOf i).toNat)
  case atStart => exact ⟨0, 14695981039346656037, by omega, rfl, rfl, by omega, rfl⟩
  case round =>
    obtain ⟨j, H, hj, rfl, rfl, hH, hf⟩ := hrel
    by_cases h : j < n
    · obtain ⟨b, off, x, rfl, hx, hc⟩ := HK.out.get h
      have hs := hide (show (k.drop j).foldl hstep H = (k.drop (j + 1)).foldl hstep (hstep H x) by
        obtain ⟨hl, e⟩ := List.getElem?_eq_some_iff.1 hx
        rw [List.drop_eq_getElem_cons hl, e]; rfl)
      have hse := hide (hstep_eq H x hH)
      clear hx
      go_wp2_with fail
      go_round
      case rel => exact ⟨j + 1, hstep H x, by omega, by go_num, by rw [hse.out], hstep_lt H x, by have := hf.out; rw [hs.out] at this; exact this⟩
      case measure => simp [intOf]; omega
    · have hfe := hide (hfin_eq H hH)
      go_wp2_with fail
      go_ret
      rw [hfe.out, hf.out, List.drop_of_length_le (by have := HL.out; omega)]
      exact ⟨rfl, rfl⟩
end Go.Proofs.Ytahdiiaadjdmcaa

namespace Go.Proofs.Ytahdiiaadjdmcaa
open Go.RowKit

/-- a place of the table: 0 empty, 1 used, 2 gone -/
structure Pl where
  st : Nat
  key : List UInt8
  num : Int

/-- the walk of find: so many steps are left, this place is looked at, this one was free -/
def scanP (T : List Pl) (key : List UInt8) : Nat → Nat → Option Nat → Option Nat × Option Nat
  | 0, _, fr => (none, fr)
  | k + 1, i, fr => match T[i]? with
    | none => (none, fr)
    | some p => if p.st = 0 then (none, fr.or (some i)) else if p.st = 2 then scanP T key k ((i + 1) % T.length) (fr.or (some i)) else if p.key = key then (some i, some i) else scanP T key k ((i + 1) % T.length) fr
def posP (T : List Pl) (key : List UInt8) (d : Nat) : Nat := (hashN key % T.length + d) % T.length
def findP (T : List Pl) (key : List UInt8) : Option Nat × Option Nat := scanP T key T.length (posP T key 0) none
def ent (p : Pl) : Option (List UInt8 × Int) := if p.st = 1 then some (p.key, p.num) else none
def ents (T : List Pl) : List (List UInt8 × Int) := T.filterMap ent
def goneN (T : List Pl) : Nat := T.countP (fun p => p.st == 2)

/-- on the key's way nothing is empty ahead of this place -/
def Reach (T : List Pl) (key : List UInt8) (i : Nat) : Prop := ∃ d, d < T.length ∧ posP T key d = i ∧ ∀ e, e < d → ∃ q, T[posP T key e]? = some q ∧ q.st ≠ 0
structure HGood (T : List Pl) : Prop where
  st : ∀ p ∈ T, p.st ≤ 2
  room : (ents T).length + goneN T < T.length
  keys : ∀ (i j : Nat) (p q : Pl), T[i]? = some p → T[j]? = some q → p.st = 1 → q.st = 1 → p.key = q.key → i = j
  reach : ∀ (i : Nat) (p : Pl), T[i]? = some p → p.st = 1 → Reach T p.key i

theorem posP_lt {T : List Pl} (key : List UInt8) (d : Nat) (h : 0 < T.length) : posP T key d < T.length := Nat.mod_lt _ h
theorem posP_succ (T : List Pl) (key : List UInt8) (d : Nat) : posP T key (d + 1) = (posP T key d + 1) % T.length := by
  unfold posP; simp only [Nat.mod_add_mod, Nat.add_assoc]
theorem posP_get {T : List Pl} (key : List UInt8) (d : Nat) (h : 0 < T.length) : ∃ p, T[posP T key d]? = some p := ⟨_, List.getElem?_eq_getElem (posP_lt key d h)⟩
theorem posP_all {T : List Pl} (key : List UInt8) {i : Nat} (h : i < T.length) : ∃ d, d < T.length ∧ posP T key d = i := by
  have h0 : hashN key % T.length < T.length := Nat.mod_lt _ (by omega)
  generalize hh : hashN key % T.length = a at *
  by_cases h1 : a ≤ i
  · exact ⟨i - a, by omega, by unfold posP; rw [hh, show a + (i - a) = i by omega, Nat.mod_eq_of_lt h]⟩
  · exact ⟨i + T.length - a, by omega, by unfold posP; rw [hh, show a + (i + T.length - a) = i + T.length by omega, Nat.add_mod_right, Nat.mod_eq_of_lt h]⟩

/-- ahead of step d nothing is empty, and the key isn't there -/
def Passed (T : List Pl) (key : List UInt8) (d : Nat) : Prop := ∀ e, e < d → ∃ q, T[posP T key e]? = some q ∧ q.st ≠ 0 ∧ ¬ (q.st = 1 ∧ q.key = key)
def FreeAt (T : List Pl) (key : List UInt8) (f : Nat) : Prop := Reach T key f ∧ ∃ q, T[f]? = some q ∧ q.st ≠ 1
theorem Passed.zero (T : List Pl) (key : List UInt8) : Passed T key 0 := fun _ h => absurd h (by omega)
theorem Passed.succ {T : List Pl} {key : List UInt8} {d : Nat} (h : Passed T key d) {q : Pl} (hq : T[posP T key d]? = some q) (h0 : q.st ≠ 0) (h1 : ¬ (q.st = 1 ∧ q.key = key)) : Passed T key (d + 1) := fun e he => by
  rcases Nat.lt_succ_iff_lt_or_eq.1 he with h2 | rfl
  · exact h e h2
  · exact ⟨q, hq, h0, h1⟩
theorem Passed.reach {T : List Pl} {key : List UInt8} {d : Nat} (h : Passed T key d) (hd : d < T.length) : Reach T key (posP T key d) :=
  ⟨d, hd, rfl, fun e he => by obtain ⟨q, h1, h2, _⟩ := h e he; exact ⟨q, h1, h2⟩⟩

theorem scan_spec {T : List Pl} (key : List UInt8) (hst : ∀ p ∈ T, p.st ≤ 2) (h0 : 0 < T.length) : ∀ (k d : Nat) (fr : Option Nat), d + k = T.length → Passed T key d → (∀ f, fr = some f → FreeAt T key f) →
    (∃ i p, scanP T key k (posP T key d) fr = (some i, some i) ∧ T[i]? = some p ∧ p.st = 1 ∧ p.key = key) ∨
    (∃ fr', scanP T key k (posP T key d) fr = (none, fr') ∧ (∀ f, fr' = some f → FreeAt T key f) ∧ (Passed T key T.length ∨ fr' ≠ none ∧ ∃ d', d' < T.length ∧ Passed T key d' ∧ ∃ q, T[posP T key d']? = some q ∧ q.st = 0))
  | 0, d, fr, hd, hp, hf => .inr ⟨fr, rfl, hf, .inl (by rw [← hd]; exact hp)⟩
  | k + 1, d, fr, hd, hp, hf => by
    obtain ⟨p, hq⟩ := posP_get key d h0
    have hle := hst p (List.mem_of_getElem? hq)
    have hdl : d < T.length := by omega
    simp only [scanP, hq]
    have hor : p.st ≠ 1 → ∀ f, fr.or (some (posP T key d)) = some f → FreeAt T key f := fun h1 f he => by
      cases fr with
      | some g => exact hf f (by simpa using he)
      | none =>
        obtain rfl : posP T key d = f := by simpa using he
        exact ⟨hp.reach hdl, p, hq, h1⟩
    by_cases h : p.st = 0
    · rw [if_pos h]
      exact .inr ⟨_, rfl, hor (by omega), .inr ⟨by cases fr <;> simp, d, hdl, hp, p, hq, h⟩⟩
    · rw [if_neg h]
      by_cases h2 : p.st = 2
      · rw [if_pos h2, ← posP_succ]
        exact scan_spec key hst h0 k (d + 1) _ (by omega) (hp.succ hq h (by omega)) (hor (by omega))
      · rw [if_neg h2]
        by_cases h3 : p.key = key
        · rw [if_pos h3]
          exact .inl ⟨_, p, rfl, hq, by omega, h3⟩
        · rw [if_neg h3, ← posP_succ]
          exact scan_spec key hst h0 k (d + 1) _ (by omega) (hp.succ hq h (fun x => h3 x.2)) hf

theorem count_three : ∀ (T : List Pl), (∀ p ∈ T, p.st ≤ 2) → (ents T).length + goneN T + T.countP (fun p => p.st == 0) = T.length
  | [], _ => rfl
  | p :: T, h => by
    have ih := count_three T fun q hq => h q (List.mem_cons_of_mem _ hq)
    have h1 := h p (List.mem_cons_self ..)
    unfold ents goneN at *
    simp only [List.filterMap_cons, List.countP_cons, List.length_cons]
    obtain h2 | h2 | h2 : p.st = 0 ∨ p.st = 1 ∨ p.st = 2 := by omega
    · simp [ent, h2]; omega
    · simp [ent, h2]; omega
    · simp [ent, h2]; omega
theorem HGood.pos {T : List Pl} (h : HGood T) : 0 < T.length := by have := h.room; omega
theorem HGood.hole {T : List Pl} (h : HGood T) : ∃ (i : Nat) (q : Pl), T[i]? = some q ∧ q.st = 0 := by
  have h1 := count_three T h.st
  have h2 := h.room
  have h3 : 0 < T.countP (fun p => p.st == 0) := by omega
  obtain ⟨q, hq, h4⟩ := List.countP_pos_iff.1 h3
  obtain ⟨i, hi, e⟩ := List.getElem_of_mem hq
  exact ⟨i, q, by rw [List.getElem?_eq_getElem hi, e], by simpa using h4⟩

/-- what find finds -/
theorem find_spec {T : List Pl} (hG : HGood T) (key : List UInt8) :
    (∃ i p, findP T key = (some i, some i) ∧ T[i]? = some p ∧ p.st = 1 ∧ p.key = key) ∨
    (∃ f, findP T key = (none, some f) ∧ FreeAt T key f ∧ ∀ (i : Nat) (p : Pl), T[i]? = some p → p.st = 1 → p.key ≠ key) := by
  rcases scan_spec key hG.st hG.pos T.length 0 none (by omega) (Passed.zero _ _) (fun _ h => by cases h) with h | ⟨fr', h1, h2, h3 | ⟨h3, d', hd', hp', q, hq, hq0⟩⟩
  · exact .inl h
  · obtain ⟨i, q, hq, h0⟩ := hG.hole
    obtain ⟨d, hd, e⟩ := posP_all key (i := i) (by have := List.getElem?_eq_some_iff.1 hq; exact this.1)
    obtain ⟨q', hq', hn, _⟩ := h3 d hd
    rw [e, hq] at hq'
    injection hq' with hq'
    subst hq'
    exact absurd h0 hn
  · cases fr' with
    | none => exact absurd rfl h3
    | some f =>
      refine .inr ⟨f, h1, h2 f rfl, fun i p hi hp1 hk => ?_⟩
      obtain ⟨d, hd, e, hr⟩ := hG.reach i p hi hp1
      rw [hk] at e hr
      rcases Nat.lt_trichotomy d d' with hlt | rfl | hlt
      · obtain ⟨q', hq', _, hn⟩ := hp' d hlt
        rw [e, hi] at hq'
        injection hq' with hq'
        subst hq'
        exact hn ⟨hp1, hk⟩
      · rw [e, hi] at hq
        injection hq with hq
        subst hq
        omega
      · obtain ⟨q', hq', hn⟩ := hr d' hlt
        rw [hq] at hq'
        injection hq' with hq'
        subst hq'
        exact hn hq0
/-! the table changes at one place -/
theorem Reach.set_ {T : List Pl} {key : List UInt8} {i j : Nat} {p : Pl} (h : Reach T key i) (hp : p.st ≠ 0) : Reach (T.set j p) key i := by
  obtain ⟨d, hd, e, hr⟩ := h
  have hl : (T.set j p).length = T.length := List.length_set
  refine ⟨d, by rw [hl]; exact hd, by unfold posP at *; rw [hl]; exact e, fun e he => ?_⟩
  obtain ⟨q, hq, hn⟩ := hr e he
  unfold posP at *
  rw [hl]
  by_cases h1 : j = (hashN key % T.length + e) % T.length
  · exact ⟨p, by rw [← h1]; exact List.getElem?_set_self (by rw [h1]; exact (List.getElem?_eq_some_iff.1 hq).1), hp⟩
  · exact ⟨q, by rw [List.getElem?_set_ne h1]; exact hq, hn⟩
theorem ents_split {T : List Pl} {i : Nat} {p : Pl} (h : T[i]? = some p) : List.Perm (ents T) ((ent p).toList ++ (ents (T.take i) ++ ents (T.drop (i + 1)))) := by
  obtain ⟨hi, e⟩ := List.getElem?_eq_some_iff.1 h
  have h1 : T = T.take i ++ (p :: T.drop (i + 1)) := by rw [← e, ← List.drop_eq_getElem_cons hi, List.take_append_drop]
  have h2 : ents T = ents (T.take i) ++ ((ent p).toList ++ ents (T.drop (i + 1))) := by
    conv => lhs; rw [h1]
    unfold ents
    rw [List.filterMap_append, List.filterMap_cons]
    cases ent p <;> rfl
  rw [h2, ← List.append_assoc, ← List.append_assoc]
  exact List.Perm.append_right _ List.perm_append_comm
theorem ents_set {T : List Pl} {i : Nat} {p : Pl} (hi : i < T.length) : List.Perm (ents (T.set i p)) ((ent p).toList ++ (ents (T.take i) ++ ents (T.drop (i + 1)))) := by
  have h := ents_split (T := T.set i p) (i := i) (p := p) (List.getElem?_set_self hi)
  rwa [List.take_set_of_le (Nat.le_refl _), List.drop_set_of_lt (by omega)] at h
theorem gone_set {T : List Pl} {i : Nat} {p q : Pl} (h : T[i]? = some q) : goneN (T.set i p) + (if q.st = 2 then 1 else 0) = goneN T + (if p.st = 2 then 1 else 0) := by
  obtain ⟨hi, e⟩ := List.getElem?_eq_some_iff.1 h
  have h1 : T = T.take i ++ (q :: T.drop (i + 1)) := by rw [← e, ← List.drop_eq_getElem_cons hi, List.take_append_drop]
  have h2 : T.set i p = T.take i ++ (p :: T.drop (i + 1)) := by
    rw [List.set_eq_take_append_cons_drop, if_pos hi]
  rw [h2]
  conv => rhs; rw [h1]
  unfold goneN
  simp only [List.countP_append, List.countP_cons, beq_iff_eq]
  omega
theorem mem_ents {T : List Pl} {k : List UInt8} {n : Int} : (k, n) ∈ ents T ↔ ∃ (i : Nat) (p : Pl), T[i]? = some p ∧ p.st = 1 ∧ p.key = k ∧ p.num = n := by
  unfold ents
  rw [List.mem_filterMap]
  constructor
  · rintro ⟨p, hp, he⟩
    obtain ⟨i, hi, e⟩ := List.getElem_of_mem hp
    unfold ent at he
    split at he
    · rename_i h1
      injection he with he
      injection he with h2 h3
      exact ⟨i, p, by rw [List.getElem?_eq_getElem hi, e], h1, h2, h3⟩
    · cases he
  · rintro ⟨i, p, hp, h1, rfl, rfl⟩
    exact ⟨p, List.mem_of_getElem? hp, by rw [ent, if_pos h1]⟩
/-- a key is laid at a free place -/
theorem put_good {T : List Pl} {key : List UInt8} {f : Nat} {n : Int} (hG : HGood T) (hf : FreeAt T key f) (hk : ∀ (i : Nat) (p : Pl), T[i]? = some p → p.st = 1 → p.key ≠ key)
    (hr : (ents T).length + goneN T + 1 < T.length) : HGood (T.set f ⟨1, key, n⟩) ∧ List.Perm (ents (T.set f ⟨1, key, n⟩)) ((key, n) :: ents T) ∧ ∃ q, T[f]? = some q ∧ goneN (T.set f ⟨1, key, n⟩) + (if q.st = 2 then 1 else 0) = goneN T := by
  obtain ⟨hre, q, hq, hq1⟩ := hf
  have hfl : f < T.length := (List.getElem?_eq_some_iff.1 hq).1
  have hp1 := ents_split hq
  have hp2 := ents_set (T := T) (i := f) (p := ⟨1, key, n⟩) hfl
  have hg := gone_set (p := ⟨1, key, n⟩) hq
  rw [show ent q = none by rw [ent, if_neg hq1]] at hp1
  simp only [Option.toList_none, List.nil_append] at hp1
  rw [show ent ⟨1, key, n⟩ = some (key, n) from rfl] at hp2
  simp only [Option.toList_some, List.singleton_append] at hp2
  have hp3 : List.Perm (ents (T.set f ⟨1, key, n⟩)) ((key, n) :: ents T) := hp2.trans (List.Perm.cons _ hp1.symm)
  have hl := hp3.length_eq
  rw [List.length_cons] at hl
  have hg : goneN (T.set f ⟨1, key, n⟩) + (if q.st = 2 then 1 else 0) = goneN T := hg
  refine ⟨⟨fun p hp => ?_, ?_, fun i j a b ha hb h1 h2 he => ?_, fun i a ha h1 => ?_⟩, hp3, q, hq, hg⟩
  · rcases List.mem_or_eq_of_mem_set hp with h | rfl
    · exact hG.st p h
    · exact (by omega : (1 : Nat) ≤ 2)
  · rw [List.length_set, hl]; omega
  · by_cases hi : f = i
    · by_cases hj : f = j
      · omega
      · subst hi
        rw [List.getElem?_set_self hfl] at ha
        rw [List.getElem?_set_ne hj] at hb
        injection ha with ha
        subst ha
        exact absurd he.symm (hk j b hb h2)
    · rw [List.getElem?_set_ne hi] at ha
      by_cases hj : f = j
      · subst hj
        rw [List.getElem?_set_self hfl] at hb
        injection hb with hb
        subst hb
        exact absurd he (hk i a ha h1)
      · rw [List.getElem?_set_ne hj] at hb
        exact hG.keys i j a b ha hb h1 h2 he
  · by_cases hi : f = i
    · subst hi
      rw [List.getElem?_set_self hfl] at ha
      injection ha with ha
      subst ha
      exact hre.set_ (fun h => Nat.noConfusion h)
    · rw [List.getElem?_set_ne hi] at ha
      exact (hG.reach i a ha h1).set_ (fun h => Nat.noConfusion h)
/-- a used place is turned: another number, or the key goes -/
theorem turn_good {T : List Pl} {i : Nat} {q p : Pl} (hG : HGood T) (hq : T[i]? = some q) (hq1 : q.st = 1) (hp : p.st = 1 ∧ p.key = q.key ∨ p.st = 2) : HGood (T.set i p) ∧
    ∃ R, List.Perm (ents T) ((q.key, q.num) :: R) ∧ List.Perm (ents (T.set i p)) ((ent p).toList ++ R) ∧ goneN (T.set i p) = goneN T + (if p.st = 2 then 1 else 0) := by
  have hil : i < T.length := (List.getElem?_eq_some_iff.1 hq).1
  have hp1 := ents_split hq
  have hp2 := ents_set (T := T) (i := i) (p := p) hil
  have hg := gone_set (p := p) hq
  rw [show ent q = some (q.key, q.num) by rw [ent, if_pos hq1]] at hp1
  simp only [Option.toList_some, List.singleton_append] at hp1
  rw [if_neg (show ¬ q.st = 2 by omega), Nat.add_zero] at hg
  refine ⟨⟨fun x hx => ?_, ?_, fun j k a b ha hb h1 h2 he => ?_, fun j a ha h1 => ?_⟩, _, hp1, hp2, hg⟩
  · rcases List.mem_or_eq_of_mem_set hx with h | rfl
    · exact hG.st x h
    · omega
  · have h1 := hp1.length_eq
    have h2 := hp2.length_eq
    have h3 := hG.room
    rw [List.length_cons] at h1
    rw [List.length_append] at h2
    rw [List.length_set, hg, h2]
    rcases hp with ⟨h4, _⟩ | h4
    · rw [show ent p = some (p.key, p.num) by rw [ent, if_pos h4], if_neg (by omega)]
      simp only [Option.toList_some, List.length_cons, List.length_nil]; omega
    · rw [show ent p = none by rw [ent, if_neg (by omega)], if_pos h4]
      simp only [Option.toList_none, List.length_nil]; omega
  · by_cases hj : i = j
    · by_cases hk : i = k
      · omega
      · subst hj
        rw [List.getElem?_set_self hil] at ha
        rw [List.getElem?_set_ne hk] at hb
        injection ha with ha
        subst ha
        rcases hp with ⟨_, h4⟩ | h4
        · exact hG.keys i k q b hq hb hq1 h2 (h4.symm.trans he)
        · omega
    · rw [List.getElem?_set_ne hj] at ha
      by_cases hk : i = k
      · subst hk
        rw [List.getElem?_set_self hil] at hb
        injection hb with hb
        subst hb
        rcases hp with ⟨_, h4⟩ | h4
        · exact hG.keys j i a q ha hq h1 hq1 (he.trans h4)
        · omega
      · rw [List.getElem?_set_ne hk] at hb
        exact hG.keys j k a b ha hb h1 h2 he
  · by_cases hj : i = j
    · subst hj
      rw [List.getElem?_set_self hil] at ha
      injection ha with ha
      subst ha
      rcases hp with ⟨_, h4⟩ | h4
      · rw [h4]; exact (hG.reach i q hq hq1).set_ (by omega)
      · omega
    · rw [List.getElem?_set_ne hj] at ha
      exact (hG.reach j a ha h1).set_ (by omega)
theorem empty_good (n : Nat) (h : 0 < n) : HGood (List.replicate n ⟨0, [], 0⟩) ∧ ents (List.replicate n ⟨0, [], 0⟩) = [] ∧ goneN (List.replicate n ⟨0, [], 0⟩) = 0 := by
  have h1 : ents (List.replicate n ⟨0, [], 0⟩) = [] := by
    unfold ents; rw [List.filterMap_replicate]; rfl
  have h2 : goneN (List.replicate n ⟨0, [], 0⟩) = 0 := by
    unfold goneN; rw [List.countP_replicate]; rfl
  have h3 : ∀ (i : Nat) (p : Pl), (List.replicate n (⟨0, [], 0⟩ : Pl))[i]? = some p → p.st = 0 := fun i p hp => by
    rw [List.getElem?_replicate] at hp
    split at hp
    · injection hp with hp; subst hp; rfl
    · cases hp
  refine ⟨⟨fun p hp => by rw [(List.mem_replicate.1 hp).2]; decide, by rw [h1, h2, List.length_replicate]; simpa using h, fun i j a b ha _ h4 => ?_, fun i a ha h4 => ?_⟩, h1, h2⟩
  · have := h3 i a ha; omega
  · have := h3 i a ha; omega
end Go.Proofs.Ytahdiiaadjdmcaa
