/-
  HashidxFull: the walk.
-/
import Derived.Test.YtlpbkhdpfmknkaaHidB
namespace Go.Proofs.Ytlpbkhdpfmknkaa
open Go.RowKit

/-- what holds ahead of each text -/
structure FInv (w0 w : World) (x most probes : Nat) (B : Nat → Prop) (A : Option Addr) (c : Nat) (L : List ByteArray) (E : List (List UInt8 × Int)) : Prop where
  ix : HIx w B x most probes E
  new : ∀ b, B b → w0.heap.size ≤ b
  tx : TxAt w w0.heap.size A c L
  apart : ∀ a, A = some a → ¬ B a.block
  keys : List.Perm (E.map (·.1)) (L.map keyOf)
  num : ∀ p ∈ E, 0 ≤ p.2
  small : ∀ s ∈ L, s.size ≤ 4096
  ext : Ext w0 w
theorem FInv.len {w0 w : World} {x most probes : Nat} {B : Nat → Prop} {A : Option Addr} {c : Nat} {L : List ByteArray} {E : List (List UInt8 × Int)} (h : FInv w0 w x most probes B A c L E) : E.length = L.length := by
  have := h.keys.length_eq
  simpa using this
theorem FInv.mem {w0 w : World} {x most probes : Nat} {B : Nat → Prop} {A : Option Addr} {c : Nat} {L : List ByteArray} {E : List (List UInt8 × Int)} (h : FInv w0 w x most probes B A c L E) {s : ByteArray} : s ∈ L ↔ ∃ v, (keyOf s, v) ∈ E := by
  have h1 : keyOf s ∈ E.map (·.1) ↔ keyOf s ∈ L.map keyOf := h.keys.mem_iff
  constructor
  · intro hs
    obtain ⟨⟨k, v⟩, hp, rfl⟩ := List.mem_map.1 (h1.2 (List.mem_map_of_mem hs))
    exact ⟨v, hp⟩
  · rintro ⟨v, hv⟩
    obtain ⟨t, ht, e⟩ := List.mem_map.1 (h1.1 (List.mem_map.2 ⟨_, hv, rfl⟩))
    rw [← keyOf_inj.1 e]; exact ht
theorem FInv.go {w0 w w' : World} {x most probes : Nat} {B : Nat → Prop} {A : Option Addr} {c : Nat} {L : List ByteArray} {E : List (List UInt8 × Int)} (h : FInv w0 w x most probes B A c L E) (hw : Ext w w') : FInv w0 w' x most probes B A c L E :=
  ⟨h.ix.ext hw, h.new, h.tx.ext hw, h.apart, h.keys, h.num, h.small, h.ext.trans hw⟩
/-- the index was called -/
theorem FInv.call {w0 w w' : World} {x most probes probes' : Nat} {B B' : Nat → Prop} {A : Option Addr} {c : Nat} {L L' : List ByteArray} {E E' : List (List UInt8 × Int)} (h : FInv w0 w x most probes B A c L E) (hx : HIx w' B' x most probes' E') (hB : ∀ b, B' b → B b ∨ w.heap.size ≤ b) (hC : Chg B w w')
    {A' : Option Addr} {c' : Nat} (hA : TxAt w w0.heap.size A' c' L') (hap : ∀ a, A' = some a → ¬ B a.block) (hk : List.Perm (E'.map (·.1)) (L'.map keyOf)) (hn : ∀ p ∈ E', 0 ≤ p.2) (hL : ∀ s ∈ L', s.size ≤ 4096) : FInv w0 w' x most probes' B' A' c' L' E' := by
  refine ⟨hx, fun b hb => ?_, hA.far hC hap, fun a ha hb => ?_, hk, hn, hL, hC.ext h.ext h.new⟩
  · rcases hB b hb with h1 | h1
    · exact h.new b h1
    · exact Nat.le_trans h.ext.size h1
  · rcases hB _ hb with h1 | h1
    · exact hap a ha h1
    · have := (hA.lt a ha).2
      omega
/-- what happens to a key that is there: its number is another one -/
theorem FInv.again {w0 w w' : World} {x most probes : Nat} {B B' : Nat → Prop} {A : Option Addr} {c : Nat} {L : List ByteArray} {E E' : List (List UInt8 × Int)} {s : ByteArray} {v old err : Int} {had : Bool} (h : FInv w0 w x most probes B A c L E) (hx : HIx w' B' x most (probes + 1) E') (hB : ∀ b, B' b → B b ∨ w.heap.size ≤ b) (hC : Chg B w w')
    (hs : s ∈ L) (hsz : s.size ≤ 4096) (hv : 0 ≤ v) (hr : PutRes E most (keyOf s) v old had err E') : had = true ∧ err = 0 ∧ FInv w0 w' x most (probes + 1) B' A c L E' := by
  obtain ⟨u, hu⟩ := h.mem.1 hs
  rcases hr with ⟨h1, _⟩ | ⟨_, rfl, rfl, R, hp, rfl⟩ | ⟨_, h1, _⟩ | ⟨_, h1, _⟩
  · rw [keyOf_len] at h1; omega
  · refine ⟨rfl, rfl, h.call hx hB hC h.tx h.apart ?_ (fun p hp' => ?_) h.small⟩
    · exact ((hp.map (·.1)).symm.trans h.keys)
    · rcases List.mem_cons.1 hp' with rfl | h2
      · exact hv
      · exact h.num p (hp.mem_iff.2 (List.mem_cons_of_mem _ h2))
  · exact absurd hu (h1 u)
  · exact absurd hu (h1 u)
/-- a key that is too long -/
theorem FInv.long {w0 w w' : World} {x most probes : Nat} {B B' : Nat → Prop} {A : Option Addr} {c : Nat} {L : List ByteArray} {E E' : List (List UInt8 × Int)} {s : ByteArray} {v old err : Int} {had : Bool} (h : FInv w0 w x most probes B A c L E) (hx : HIx w' B' x most (probes + 1) E') (hB : ∀ b, B' b → B b ∨ w.heap.size ≤ b) (hC : Chg B w w')
    (hsz : 4096 < s.size) (hr : PutRes E most (keyOf s) v old had err E') : had = false ∧ err = 51 ∧ FInv w0 w' x most (probes + 1) B' A c L E' := by
  rcases hr with ⟨_, _, rfl, rfl, rfl⟩ | ⟨h1, _⟩ | ⟨h1, _⟩ | ⟨h1, _⟩
  · exact ⟨rfl, rfl, h.call hx hB hC h.tx h.apart h.keys h.num h.small⟩
  · rw [keyOf_len] at h1; omega
  · rw [keyOf_len] at h1; omega
  · rw [keyOf_len] at h1; omega
/-- a new key finds no room -/
theorem FInv.full {w0 w w' : World} {x most probes : Nat} {B B' : Nat → Prop} {A : Option Addr} {c : Nat} {L : List ByteArray} {E E' : List (List UInt8 × Int)} {s : ByteArray} {v old err : Int} {had : Bool} (h : FInv w0 w x most probes B A c L E) (hx : HIx w' B' x most (probes + 1) E') (hB : ∀ b, B' b → B b ∨ w.heap.size ≤ b) (hC : Chg B w w')
    (hs : s ∉ L) (hsz : s.size ≤ 4096) (hl : ¬ L.length < most) (hr : PutRes E most (keyOf s) v old had err E') : had = false ∧ err = 52 ∧ FInv w0 w' x most (probes + 1) B' A c L E' := by
  have hno : ∀ u, (keyOf s, u) ∉ E := fun u hu => hs (h.mem.2 ⟨u, hu⟩)
  rcases hr with ⟨h1, _⟩ | ⟨_, rfl, rfl, R, hp, rfl⟩ | ⟨_, _, _, _, rfl, rfl, rfl⟩ | ⟨_, _, h1, _⟩
  · rw [keyOf_len] at h1; omega
  · exact absurd (hp.mem_iff.2 (List.mem_cons_self ..)) (hno old)
  · exact ⟨rfl, rfl, h.call hx hB hC h.tx h.apart h.keys h.num h.small⟩
  · rw [h.len] at h1; omega
/-- a new key finds room -/
theorem FInv.laid {w0 w w' : World} {x most probes : Nat} {B B' : Nat → Prop} {A : Option Addr} {c : Nat} {L : List ByteArray} {E E' : List (List UInt8 × Int)} {s : ByteArray} {v old err : Int} {had : Bool} (h : FInv w0 w x most probes B A c L E) (hx : HIx w' B' x most (probes + 1) E') (_hB : ∀ b, B' b → B b ∨ w.heap.size ≤ b) (_hC : Chg B w w')
    (hs : s ∉ L) (hsz : s.size ≤ 4096) (hl : L.length < most) (_hv : 0 ≤ v) (hr : PutRes E most (keyOf s) v old had err E') : had = false ∧ err = 0 ∧ E' = (keyOf s, v) :: E := by
  have hno : ∀ u, (keyOf s, u) ∉ E := fun u hu => hs (h.mem.2 ⟨u, hu⟩)
  rcases hr with ⟨h1, _⟩ | ⟨_, rfl, rfl, R, hp, rfl⟩ | ⟨_, _, h1, _⟩ | ⟨_, _, _, _, rfl, rfl, rfl⟩
  · rw [keyOf_len] at h1; omega
  · exact absurd (hp.mem_iff.2 (List.mem_cons_self ..)) (hno old)
  · rw [h.len] at h1; omega
  · exact ⟨rfl, rfl, rfl⟩
/-- .. and is then put on the list -/
theorem FInv.snoc {w0 w w' w'' : World} {x most probes : Nat} {B B' : Nat → Prop} {A A' : Option Addr} {c c' : Nat} {L : List ByteArray} {E : List (List UInt8 × Int)} {s : ByteArray} {v : Int} (h : FInv w0 w x most probes B A c L E) (hx : HIx w' B' x most (probes + 1) ((keyOf s, v) :: E)) (hB : ∀ b, B' b → B b ∨ w.heap.size ≤ b) (hC : Chg B w w')
    (hv : 0 ≤ v) (hsz : s.size ≤ 4096) {w1 : World} (hw1 : Ext w' w1) (ht : TxAt w'' w0.heap.size A' c' (L ++ [s])) (hc : Chg (OnlyOwn A) w1 w'') (ha : ∀ a', A' = some a' → (∃ a, A = some a ∧ a.block = a'.block) ∨ w1.heap.size ≤ a'.block) : FInv w0 w'' x most (probes + 1) B' A' c' (L ++ [s]) ((keyOf s, v) :: E) := by
  have hap : ∀ a, A = some a → ¬ B' a.block := fun a he hb => by
    rcases hB _ hb with h1 | h1
    · exact h.apart a he h1
    · have := (h.tx.lt a he).2
      omega
  have hnew : ∀ b, B' b → w0.heap.size ≤ b := fun b hb => by
    rcases hB b hb with h1 | h1
    · exact h.new b h1
    · exact Nat.le_trans h.ext.size h1
  refine ⟨(hx.ext hw1).far hc ?_, hnew, ht, fun a he hb => ?_, ?_, fun p hp => ?_, fun t ht => ?_, hc.ext ((hC.ext h.ext h.new).trans hw1) ?_⟩
  · rintro g hg ⟨a, rfl, rfl⟩
    exact hap a rfl hg
  · rcases ha a he with ⟨a0, rfl, e⟩ | h1
    · exact hap a0 rfl (by rw [e]; exact hb)
    · have := (hx.ext hw1).old _ hb
      omega
  · rw [List.map_cons, List.map_append]
    exact (List.Perm.cons _ h.keys).trans (List.perm_append_comm (l₁ := [keyOf s]))
  · rcases List.mem_cons.1 hp with rfl | h2
    · exact hv
    · exact h.num p h2
  · rcases List.mem_append.1 ht with h1 | h1
    · exact h.small t h1
    · rw [List.mem_singleton.1 h1]; exact hsz
  · rintro g ⟨a, rfl, rfl⟩
    exact (h.tx.lt a rfl).1
/-- the first key goes -/
theorem FInv.pop {w0 w w' : World} {x most probes : Nat} {B : Nat → Prop} {g off c : Nat} {L : List ByteArray} {E : List (List UInt8 × Int)} {s : ByteArray} {r : Option Int} (h : FInv w0 w x most probes B (some ⟨g, off, none⟩) c (s :: L) E) (hr : LookAt E (keyOf s) r) {E' : List (List UInt8 × Int)} (hE : ∀ v, r = some v → List.Perm E ((keyOf s, v) :: E'))
    (hx : HIx w' B x most (probes + 1) E') (hC : Chg B w w') (off' : Nat) (ho : 1 < c → off' = off + 1) (ho' : c = 1 → off' = off) : (∃ v, r = some v ∧ 0 ≤ v) ∧ FInv w0 w' x most (probes + 1) B (some ⟨g, off', none⟩) (c - 1) L E' := by
  obtain ⟨u, hu⟩ := h.mem.1 (List.mem_cons_self ..)
  cases r with
  | none => exact absurd hu (hr.2 rfl u)
  | some v =>
    have hE : List.Perm E ((keyOf s, v) :: E') := hE v rfl
    refine ⟨⟨v, rfl, h.num _ (hr.1 v rfl)⟩, h.call hx (fun b hb => .inl hb) hC (h.tx.tail off' ho ho') (fun a ha => ?_) ?_ (fun p hp => h.num p (hE.mem_iff.2 (List.mem_cons_of_mem _ hp))) fun t ht => h.small t (List.mem_cons_of_mem _ ht)⟩
    · injection ha with ha
      have := h.apart ⟨g, off, none⟩ rfl
      rw [← ha]; exact this
    · have h1 := (hE.map (·.1)).symm.trans h.keys
      simp only [List.map_cons] at h1
      exact h1.cons_inv
theorem FInv.start {w0 w : World} {x most : Nat} {B : Nat → Prop} (h : HIx w B x most 0 []) (hB : ∀ b, B b → w0.heap.size ≤ b) (hE : Ext w0 w) : FInv w0 w x most 0 B none 0 [] [] :=
  ⟨h, hB, TxAt.nil _ _, fun a ha => (by cases ha), .nil, fun p hp => (by cases hp), fun t ht => (by cases ht), hE⟩
end Go.Proofs.Ytlpbkhdpfmknkaa
