/-
  hashidx: the bytes of a text; an index stays while other blocks are written; lists of texts that lose their head.
-/
import Derived.Test.YtlpbkhdpfmknkaaHidE
import Derived.Laws.IdiomStrings
namespace Go.Proofs.Ytlpbkhdpfmknkaa
open Go.RowKit

/-- the key that a text is -/
def keyOf (s : ByteArray) : List UInt8 := s.data.toList
theorem keyOf_len (s : ByteArray) : (keyOf s).length = s.size := Array.length_toList
theorem keyOf_inj {s t : ByteArray} : keyOf s = keyOf t ↔ s = t :=
  ⟨fun h => by
    obtain ⟨a⟩ := s
    obtain ⟨b⟩ := t
    have : a = b := Array.toList_inj.1 h
    rw [this], fun h => by rw [h]⟩
/-- a key's bytes at the head of a block -/
def ByAt (w : World) (g : Nat) (k : List UInt8) : Prop := ∃ cs : Array Value, w.heap[g]? = some (.cells cs 5 (cs.size, cs.size + 1)) ∧ k.length ≤ cs.size ∧ ∀ (j : Nat) (u : Value), (bytC k)[j]? = some u → cs[j]? = some u
theorem ByAt.cell {w : World} {g : Nat} {k : List UInt8} (h : ByAt w g k) {j : Nat} {u : Value} (hu : (bytC k)[j]? = some u) : w.cell? ⟨g, j, none⟩ = some u := by
  obtain ⟨cs, h1, _, h3⟩ := h
  exact (cell_of_row w g j cs _ _ h1).trans (h3 j u hu)
theorem ByAt.key {w : World} {g n : Nat} {k : List UInt8} (h : ByAt w g k) (hn : n = k.length) : KeyAt w (some ⟨g, 0, none⟩) n k :=
  ⟨by simp [bytC, hn], fun _ => ⟨g, 0, rfl, fun j u hu => by rw [Nat.zero_add]; exact h.cell hu⟩⟩
theorem conv_str (w : World) (s : ByteArray) : ∃ c w', (convert 9 30 (.string s)).run Try.prog w = .ok (.slice (some ⟨w.heap.size, 0, none⟩) s.size c) w' ∧ Ext w w' ∧ w'.heap.size = w.heap.size + 1 ∧ ByAt w' w.heap.size (keyOf s) := by
  refine ⟨_, _, run_bytes_of_string w _ _ _ s Try.underlying9 Try.underlying30 Try.underlying5, (Ext.drew w).alloc' _, by simp, _, heap_alloc_new _ _, ?_, fun j u hu => ?_⟩
  · rw [keyOf_len]
    simp only [bytesRow, Array.size_append, Array.size_map, Array.size_replicate]
    have : s.data.size = s.size := rfl
    omega
  · have hj : j < s.data.size := by
      have := (List.getElem?_eq_some_iff.1 hu).1
      simpa [bytC, keyOf] using this
    rw [bytesRow_at s _ j hj, ← hu]
    simp only [bytC, keyOf, List.getElem?_map, Array.getElem?_toList, Array.getElem?_eq_getElem hj]
    rfl

/-! an index stays while other blocks are written -/
theorem OwnKey.inB {w : World} {B : Nat → Prop} {K : Value} {k : List UInt8} (h : OwnKey w B K k) : ∀ A n c, K = .slice A n c → ∀ a, A = some a → B a.block := by
  obtain ⟨A, n, c, rfl, _, h3⟩ := h
  rintro A' n' c' he a ha
  injection he with he
  subst he
  exact h3 a ha
theorem IxAt.far {w w' : World} {B C : Nat → Prop} {x tb most size marks probes : Nat} {T : List Pl} {Ks : List Value} (h : IxAt w B x tb most size marks probes T Ks) (hc : Chg C w w') (hd : ∀ g, B g → ¬ C g) : IxAt w' B x tb most size marks probes T Ks :=
  ⟨hc.blk h.blk (hd _ h.inB), ⟨hc.blk h.tab.blk (hd _ h.tab.inB), h.tab.len, fun i p K h1 h2 => (h.tab.keys i p K h1 h2).keep hc fun A n c e a ha => hd _ ((h.tab.keys i p K h1 h2).inB A n c e a ha), h.tab.inB⟩, h.pow, h.inB⟩
theorem HIx.far {w w' : World} {B C : Nat → Prop} {x most probes : Nat} {E : List (List UInt8 × Int)} (h : HIx w B x most probes E) (hc : Chg C w w') (hd : ∀ g, B g → ¬ C g) : HIx w' B x most probes E := by
  obtain ⟨tb, T, Ks, hI, hr⟩ := h.at_
  exact ⟨⟨tb, T, Ks, hI.far hc hd, hr⟩, h.most, fun b hb => Nat.lt_of_lt_of_le (h.old b hb) hc.size⟩

/-! a list of texts of the call's own, from a place of its block on -/
def TxAt (w : World) (base : Nat) (A : Option Addr) (c : Nat) (L : List ByteArray) : Prop :=
  (A = none ∧ c = 0 ∧ L = []) ∨ ∃ g off cur, A = some ⟨g, off, none⟩ ∧ base ≤ g ∧ w.heap[g]? = some (.cells cur 9 (0, 0)) ∧ L.length ≤ c ∧ c ≤ maxLen ∧ off + c ≤ cur.size ∧ ∀ (j : Nat) (s : ByteArray), L[j]? = some s → cur[off + j]? = some (.string s)
theorem TxAt.nil (w : World) (base : Nat) : TxAt w base none 0 [] := .inl ⟨rfl, rfl, rfl⟩
theorem TxAt.cell {w : World} {base : Nat} {A : Option Addr} {c : Nat} {L : List ByteArray} (h : TxAt w base A c L) {j : Nat} {s : ByteArray} (hs : L[j]? = some s) : ∃ g off, A = some ⟨g, off, none⟩ ∧ w.cell? ⟨g, off + j, none⟩ = some (.string s) := by
  rcases h with ⟨_, _, rfl⟩ | ⟨g, off, cur, rfl, _, h3, _, _, _, h7⟩
  · cases hs
  · exact ⟨g, off, rfl, (cell_of_row w g _ cur _ _ h3).trans (h7 j s hs)⟩
theorem TxAt.cap {w : World} {base : Nat} {A : Option Addr} {c : Nat} {L : List ByteArray} (h : TxAt w base A c L) {n : Nat} (hn : L.length = n) : n ≤ c ∧ c ≤ 9223372036854775807 := by
  rcases h with ⟨rfl, rfl, rfl⟩ | ⟨g, off, cur, rfl, h2, h3, h4, h5, _⟩
  · simp at hn; omega
  · unfold maxLen at h5; omega
theorem TxAt.lt {w : World} {base : Nat} {A : Option Addr} {c : Nat} {L : List ByteArray} (h : TxAt w base A c L) : ∀ a, A = some a → base ≤ a.block ∧ a.block < w.heap.size := by
  rintro a rfl
  rcases h with ⟨h, _⟩ | ⟨g, off, cur, h1, h2, h3, _⟩
  · cases h
  · injection h1 with h1
    subst h1
    exact ⟨h2, (Array.getElem?_eq_some_iff.1 h3).1⟩
theorem TxAt.far {w w' : World} {C : Nat → Prop} {base : Nat} {A : Option Addr} {c : Nat} {L : List ByteArray} (h : TxAt w base A c L) (hc : Chg C w w') (hd : ∀ a, A = some a → ¬ C a.block) : TxAt w' base A c L := by
  rcases h with h | ⟨g, off, cur, rfl, h2, h3, h4⟩
  · exact .inl h
  · exact .inr ⟨g, off, cur, rfl, h2, (hc.block g (Array.getElem?_eq_some_iff.1 h3).1 (hd _ rfl)).trans h3, h4⟩
theorem TxAt.ext {w w' : World} {base : Nat} {A : Option Addr} {c : Nat} {L : List ByteArray} (h : TxAt w base A c L) (hw : Ext w w') : TxAt w' base A c L :=
  h.far (C := fun _ => False) (Chg.of hw) fun _ _ x => x
theorem infoStr : (Try.prog.info? 9).map (fun i => (i.zero, i.size, i.bytes)) = some (some (.string ⟨#[]⟩), 1, 16) := by kernel_rfl

/-- what is written by an append: the own block alone -/
def OnlyOwn (A : Option Addr) : Nat → Prop := fun g => ∃ a, A = some a ∧ a.block = g
theorem run_append_tx (w : World) (base : Nat) (A : Option Addr) (c : Nat) (L : List ByteArray) (h : TxAt w base A c L) (hb : base ≤ w.heap.size) (hl : L.length ≤ 1048576) (ad : Addr) (s : ByteArray) (m : Nat) (hs : w.cell? ad = some (.string s)) (ty : TypeId) :
    ∃ A' c' w', (Builtin.append_ #[22, 22] ty #[.slice A L.length c, .slice (some ad) 1 m]).run Try.prog w = .ok (.slice A' (L.length + 1) c') w' ∧ TxAt w' base A' c' (L ++ [s]) ∧ Chg (OnlyOwn A) w w' ∧
      (∀ a', A' = some a' → (∃ a, A = some a ∧ a.block = a'.block) ∨ w.heap.size ≤ a'.block) := by
  obtain ⟨i0, hi0, hz0, hz1, hz2⟩ := info_parts infoStr
  have hnews : ∀ (j : Nat) (u : Value), [Value.string s][j]? = some u → w.cell? (ad.add j) = some u := fun j u hu => by
    cases j with
    | zero =>
      obtain rfl : Value.string s = u := by simpa using hu
      have : ad.add 0 = ad := by simp [Addr.add]
      rw [this]; exact hs
    | succ j => simp at hu
  have hlen : (L ++ [s]).length = L.length + 1 := by simp
  have hml : (1048577 : Nat) ≤ maxLen := by unfold maxLen; omega
  have grown : ∀ (olds : List Value) (old : Nat), old ≤ L.length → olds = L.map Value.string →
      TxAt (w.drew.alloc (.cells (olds.toArray ++ [Value.string s].toArray ++ Builtin.zeroCells (Value.string ⟨#[]⟩).cells (grownCap w (L.length + 1) old 9 - (L.length + 1))) 9)) base (some ⟨w.heap.size, 0, none⟩) (grownCap w (L.length + 1) old 9) (L ++ [s]) := by
    intro olds old ho he
    have hge := grownCap_ge w (L.length + 1) old 9
    have hcm := grownCap_le_maxLen w (L.length + 1) old 9 (by omega)
    refine .inr ⟨w.heap.size, 0, _, rfl, hb, heap_alloc_new w.drew _, by rw [hlen]; exact hge, hcm, ?_, fun j t ht => ?_⟩
    · subst he
      simp only [Array.size_append, List.size_toArray, List.length_map, size_zeroCells, List.length_cons, List.length_nil]
      have : (Value.string ⟨#[]⟩).cells.size = 1 := rfl
      rw [this]; omega
    · subst he
      rw [Nat.zero_add]
      have hj : j < (L ++ [s]).length := (List.getElem?_eq_some_iff.1 ht).1
      rw [Array.getElem?_append_left (by simp at hj ⊢; omega)]
      rw [List.append_toArray, List.getElem?_toArray]
      have : L.map Value.string ++ [Value.string s] = (L ++ [s]).map Value.string := by simp
      rw [this, List.getElem?_map, ht]; rfl
  rcases h with ⟨rfl, rfl, rfl⟩ | ⟨g, off, cur, rfl, h2, h3, h4, h5, h6, h7⟩
  · have hr := run_append_nil (P := Try.prog) w 22 ty 9 i0 _ Try.underlying22 hi0 hz0 ad 1 m [.string s] (by simp [hz1]) hnews (by omega) (by omega) (by rw [hz2]; omega)
    have hg := grown [] 0 (by simp) rfl
    simp only [List.length_nil, Nat.zero_add, Array.empty_append] at hg ⊢
    exact ⟨_, _, _, hr, hg, Chg.of ((Ext.drew w).alloc' _), fun a' ha => by injection ha with ha; subst ha; exact .inr (Nat.le_refl _)⟩
  · by_cases hroom : L.length + 1 ≤ c
    · have hf := run_firstCells_some (P := Try.prog) w 1 1 ad 1 m [.string s] (by simp) hnews
      have hst := run_storeCells_at Try.prog g (off + L.length) 9 [.string s] 0 cur w h3 (by simp; omega) (by intro v hv; obtain rfl := List.mem_singleton.1 hv; rfl)
      simp only [Nat.add_zero] at hst
      have hr : (Builtin.append_ #[22, 22] ty #[.slice (some ⟨g, off, none⟩) L.length c, .slice (some ad) 1 m]).run Try.prog w = .ok (.slice (some ⟨g, off, none⟩) (L.length + 1) c) (w.setRow g (cur.toList.take (off + L.length) ++ [Value.string s] ++ cur.toList.drop (off + L.length + [Value.string s].length)).toArray) := by
        simp [Builtin.append_, run_underlying Try.underlying22, sizeOf, typeInfo, hi0, hz1, Builtin.lenOf, hroom, hf, Addr.add_lit, hst]
      refine ⟨_, _, _, hr, .inr ⟨g, off, _, rfl, h2, setRow_heap w g cur _ _ _ h3, by rw [hlen]; exact hroom, h5, ?_, fun j t ht => ?_⟩, ⟨rfl, rfl, rfl, by simp, fun k _ hk => setRow_other w g k _ fun e => hk ⟨_, rfl, e.symm⟩⟩, fun a' ha => .inl ⟨_, rfl, by injection ha with ha; rw [← ha]⟩⟩
      · simp only [List.size_toArray, List.length_append, List.length_take, List.length_drop, Array.length_toList, List.length_cons, List.length_nil]
        omega
      · rw [List.getElem?_toArray]
        have hj : j < (L ++ [s]).length := (List.getElem?_eq_some_iff.1 ht).1
        rw [hlen] at hj
        have htl : (cur.toList.take (off + L.length)).length = off + L.length := by simp; omega
        rcases Nat.lt_or_ge j L.length with hlt | hge
        · rw [List.append_assoc, List.getElem?_append_left (by omega), List.getElem?_take_of_lt (by omega)]
          rw [List.getElem?_append_left hlt] at ht
          rw [Array.getElem?_toList]; exact h7 j t ht
        · obtain rfl : j = L.length := by omega
          rw [List.append_assoc, List.getElem?_append_right (by omega), htl, Nat.sub_self]
          rw [List.getElem?_append_right (Nat.le_refl _), Nat.sub_self] at ht
          obtain rfl : s = t := by simpa using ht
          rfl
    · have holds : ∀ (j : Nat) (u : Value), (L.map Value.string)[j]? = some u → w.cell? ((⟨g, off, none⟩ : Addr).add j) = some u := fun j u hu => by
        rw [List.getElem?_map, Option.map_eq_some_iff] at hu
        obtain ⟨t, ht, rfl⟩ := hu
        rw [add_flat, cell_of_row w g _ cur _ _ h3]
        exact h7 j t ht
      have hc1 : c = L.length := by omega
      have hr := run_append_grow (P := Try.prog) w 22 ty 9 i0 _ Try.underlying22 hi0 hz0 ⟨g, off, none⟩ L.length c (L.map Value.string) (by simp [hz1]) holds ad 1 m [.string s] (by simp [hz1]) hnews (by omega) (by omega) (growslice_fits (by omega) (by rw [hz2]; omega))
      have hg := grown (L.map Value.string) c (by omega) rfl
      exact ⟨_, _, _, hr, hg, Chg.of ((Ext.drew w).alloc' _), fun a' ha => by injection ha with ha; subst ha; exact .inr (Nat.le_refl _)⟩
theorem wpList_append_tx {w : World} {ops : Array Oper} {rest : List Oper} {o : Oper} {a : Act} {Q : Exit → Act → World → Prop} (hgd : o.guard = none) (s x : Operand)
    (ho : o.op = .call { callee := .builtin .append, args := #[s, x], argTypes := #[22, 22] })
    (base : Nat) (A : Option Addr) (n c : Nat) (L : List ByteArray) (hs : a.eval s = .slice A n c) (hn : n = L.length) (h : TxAt w base A c L) (hb : base ≤ w.heap.size) (hl : L.length ≤ 1048576)
    (ad : Addr) (t : ByteArray) (m : Nat) (hx : a.eval x = .slice (some ad) 1 m) (ht : w.cell? ad = some (.string t))
    (K : ∀ A' c' w', Hid (TxAt w' base A' c' (L ++ [t])) → Hid (Chg (OnlyOwn A) w w') → Hid (∀ a', A' = some a' → (∃ a, A = some a ∧ a.block = a'.block) ∨ w.heap.size ≤ a'.block) → wpList Try.prog ops Q rest (a.put o.dst (.slice A' (n + 1) c')) w') : wpList Try.prog ops Q (o :: rest) a w := by
  subst hn
  obtain ⟨A', c', w', hrun, h2, h3, h4⟩ := run_append_tx w base A c L h hb hl ad t m ht o.type
  refine wpList_plain hgd fun _ hK => ?_
  unfold Oper.wp execOp
  simp only [ho, resolve, invoke, builtin, Sem.run_bind, Sem.run_pure, Result.andThen_ok, List.map_toArray, List.map_cons, List.map_nil, hs, hx, hrun]
  exact hK _ _ (K A' c' w' h2 h3 h4)
/-- the list without its first text -/
theorem TxAt.tail {w : World} {base g off c : Nat} {s : ByteArray} {L : List ByteArray} (h : TxAt w base (some ⟨g, off, none⟩) c (s :: L)) (off' : Nat) (ho : 1 < c → off' = off + 1) (ho' : c = 1 → off' = off) : TxAt w base (some ⟨g, off', none⟩) (c - 1) L := by
  rcases h with ⟨h, _⟩ | ⟨g', off0, cur, he, h2, h3, h4, h5, h6, h7⟩
  · cases h
  · injection he with he
    injection he with e1 e2
    subst e1; subst e2
    rw [List.length_cons] at h4
    by_cases h1 : c = 1
    · obtain rfl : L = [] := List.eq_nil_of_length_eq_zero (by omega)
      rw [ho' h1]
      exact .inr ⟨g, off, cur, rfl, h2, h3, by simp, by omega, by omega, fun j t ht => by cases ht⟩
    · rw [ho (by omega)]
      refine .inr ⟨g, off + 1, cur, rfl, h2, h3, by omega, by omega, by omega, fun j t ht => ?_⟩
      rw [Nat.add_assoc, Nat.add_comm 1 j]
      exact h7 (j + 1) t (by simpa using ht)
end Go.Proofs.Ytlpbkhdpfmknkaa
