/-
  hashidx: lists of told keys: sorted ones with one set are one; where a text's bytes are appended; keys that are written over.
-/
import Derived.Test.YtlpbkhdpfmknkaaHidY
import Derived.Test.YtlpbkhdpfmknkaaHidX
import Derived.Lib.AppendStr
namespace Go.Proofs.Ytlpbkhdpfmknkaa
open Go.RowKit

theorem sorted_one {ps qs : List KP} (hp : ps.Pairwise kpLe) (hq : qs.Pairwise kpLe) (h : List.Perm (ps.map KP.r) (qs.map KP.r)) : ps.map KP.r = qs.map KP.r := by
  have h1 : (ps.map KP.r).Pairwise (fun a b => Lib.compareBytes a b ≤ 0) := List.pairwise_map.2 hp
  have h2 : (qs.map KP.r).Pairwise (fun a b => Lib.compareBytes a b ≤ 0) := List.pairwise_map.2 hq
  exact List.Perm.eq_of_pairwise (fun a b _ _ h3 h4 => (isCmp_keys.eq a b).1 (by
    have := isCmp_keys.anti a b
    omega)) h1 h2 h

/-! a text's bytes are appended to own ones -/
theorem infoU8' : (Try.prog.info? 5).map (fun i => (i.zero, i.size, i.bytes)) = some (some (.int .u8 0), 1, 1) := by kernel_rfl
theorem strCells_bytC (s : ByteArray) : Lib.strCells s = bytC (keyOf s) := rfl
theorem run_append_by (w : World) (base : Nat) (A : Option Addr) (n c : Nat) (k : List UInt8) (h : w.ownsRow base 5 1 (.slice A n c) n (bytC k)) (hA : A ≠ none) (hb : base ≤ w.heap.size) (s : ByteArray) (hl : n + s.size ≤ 4194304) (ty : TypeId) :
    ∃ A' c' w', (Builtin.append_ #[30, 9] ty #[.slice A n c, .string s]).run Try.prog w = .ok (.slice A' (n + s.size) c') w' ∧ w'.ownsRow base 5 1 (.slice A' (n + s.size) c') (n + s.size) (bytC (k ++ keyOf s)) ∧ Chg (OnlyOwn A) w w' ∧ A' ≠ none ∧
      (∀ a', A' = some a' → (∃ a, A = some a ∧ a.block = a'.block) ∨ w.heap.size ≤ a'.block) := by
  obtain ⟨i0, hi0, hz0, hz1, hz2⟩ := info_parts infoU8'
  have hxl : (bytC k).length = n := by simpa using h.1
  have hbc : bytC (k ++ keyOf s) = bytC k ++ Lib.strCells s := by rw [strCells_bytC]; simp [bytC]
  have hml : (4194304 : Nat) ≤ maxLen := by unfold maxLen; omega
  have hlen : (bytC k ++ Lib.strCells s).length = (n + s.size) * 1 := by rw [List.length_append, hxl, Lib.strCells_length, Nat.mul_one]
  rw [hbc]
  rcases h.2 with ⟨he, _⟩ | ⟨g, cap, cur, hv, hbg, hg, hnc, hcm, hcs, htake⟩
  · injection he with he
    exact absurd he hA
  · injection hv with e1 e2 e3
    subst e1; subst e3
    have hcs' : cur.size = c := by simpa using hcs
    by_cases hroom : n + s.size ≤ c
    · have hr := Lib.run_append_room_string (P := Try.prog) w 30 9 ty 5 i0 Try.underlying30 Try.underlying9 hi0 hz1 g n c cur hg s hroom (by omega)
      refine ⟨_, _, _, hr, ⟨hlen, .inr ⟨g, c, _, rfl, hbg, setRow_heap w g cur _ _ _ hg, hroom, hcm, ?_, ?_⟩⟩, ⟨rfl, rfl, rfl, by simp, fun k _ hk => setRow_other w g k _ fun e => hk ⟨_, rfl, e.symm⟩⟩, by simp, fun a' ha => .inl ⟨_, rfl, by injection ha with ha; rw [← ha]⟩⟩
      · simp only [List.size_toArray, List.length_append, List.length_take, List.length_drop, Array.length_toList, Lib.strCells_length]
        omega
      · have ht' : cur.toList.take n = bytC k := by simpa using htake
        rw [ht', ← hlen]
        exact List.take_left
    · have holds : ∀ (j : Nat) (u : Value), (bytC k)[j]? = some u → w.cell? ((⟨g, 0, none⟩ : Addr).add j) = some u := h.cells (g := g) rfl
      have hr := Lib.run_append_grow_string (P := Try.prog) w 30 9 ty 5 i0 _ Try.underlying30 Try.underlying9 hi0 hz0 ⟨g, 0, none⟩ n c (bytC k) (by rw [hz1]; simpa using hxl) holds s (by omega) (by omega) (by rw [hz2]; exact growslice_fits (by omega) (by omega))
      have hge := grownCap_ge w (n + s.size) c 5
      have hcm := grownCap_le_maxLen w (n + s.size) c 5 (by omega)
      refine ⟨_, _, _, hr, ⟨hlen, .inr ⟨w.heap.size, _, _, rfl, hb, heap_alloc_new w.drew _, hge, hcm, ?_, ?_⟩⟩, Chg.of ((Ext.drew w).alloc' _), by simp, fun a' ha => by injection ha with ha; subst ha; exact .inr (Nat.le_refl _)⟩
      · have hz1 : (Value.int IntKind.u8 0).cells.size = 1 := rfl
        simp only [Array.size_append, List.size_toArray, size_zeroCells, hz1, hxl, Lib.strCells_length]
        omega
      · simp only [Array.toList_append, List.append_assoc]
        rw [← List.append_assoc, ← hlen]
        exact List.take_left
theorem wpList_append_by {w : World} {ops : Array Oper} {rest : List Oper} {o : Oper} {a : Act} {Q : Exit → Act → World → Prop} (hgd : o.guard = none) (sl x : Operand)
    (ho : o.op = .call { callee := .builtin .append, args := #[sl, x], argTypes := #[30, 9] })
    (base : Nat) (A : Option Addr) (n c : Nat) (k : List UInt8) (hs : a.eval sl = .slice A n c) (h : w.ownsRow base 5 1 (.slice A n c) n (bytC k)) (hA : A ≠ none) (hb : base ≤ w.heap.size) (s : ByteArray) (hx : a.eval x = .string s) (hl : n + s.size ≤ 4194304)
    (K : ∀ A' c' w', Hid (w'.ownsRow base 5 1 (.slice A' (n + s.size) c') (n + s.size) (bytC (k ++ keyOf s))) → Hid (Chg (OnlyOwn A) w w') → Hid (A' ≠ none) → Hid (∀ a', A' = some a' → (∃ a, A = some a ∧ a.block = a'.block) ∨ w.heap.size ≤ a'.block) → wpList Try.prog ops Q rest (a.put o.dst (.slice A' (n + s.size) c')) w') : wpList Try.prog ops Q (o :: rest) a w := by
  obtain ⟨A', c', w', hrun, h2, h3, h4, h5⟩ := run_append_by w base A n c k h hA hb s hl o.type
  refine wpList_plain hgd fun _ hK => ?_
  unfold Oper.wp execOp
  simp only [ho, resolve, invoke, builtin, Sem.run_bind, Sem.run_pure, Result.andThen_ok, List.map_toArray, List.map_cons, List.map_nil, hs, hx, hrun]
  exact hK _ _ (K A' c' w' h2 h3 h4 h5)

/-! told keys -/
/-- keys that were told lie in a row of their own, in blocks from base on -/
structure KAt (base : Nat) (w : World) (ps : List KP) (A : Option Addr) (c : Nat) : Prop where
  own : w.ownsRow base 30 1 (.slice A ps.length c) ps.length (ps.map KP.val)
  keys : ∀ p ∈ ps, OwnKey w (fun b => base ≤ b) p.val p.r
theorem KInv.at_ {w0 w : World} {ps : List KP} {A : Option Addr} {c : Nat} {ks : List (List UInt8)} (h : KInv w0 w ps A c ks) : KAt w0.heap.size w ps A c := ⟨h.own, h.keys⟩
theorem KAt.far {base : Nat} {w w' : World} {C : Nat → Prop} {ps : List KP} {A : Option Addr} {c : Nat} (h : KAt base w ps A c) (hc : Chg C w w') (hd : ∀ g, base ≤ g → g < w.heap.size → ¬ C g) : KAt base w' ps A c := by
  refine ⟨hc.own h.own fun g hg => ?_, fun p hp => ?_⟩
  · have := h.own.lt g hg
    exact hd g this.1 this.2
  · obtain ⟨A', n', c', e, ho, hB⟩ := h.keys p hp
    refine ⟨A', n', c', e, hc.own ho fun g hg => ?_, hB⟩
    have h1 := ho.lt g hg
    rw [e] at hg
    cases A' with
    | none => cases hg
    | some a =>
      injection hg with hg
      subst hg
      exact hd _ (hB a rfl) h1.2
theorem KAt.ext {base : Nat} {w w' : World} {ps : List KP} {A : Option Addr} {c : Nat} (h : KAt base w ps A c) (hw : Ext w w') : KAt base w' ps A c := h.far (C := fun _ => False) (Chg.of hw) fun _ _ _ x => x
/-- a key of them -/
theorem KAt.get {base : Nat} {w : World} {ps : List KP} {A : Option Addr} {c : Nat} (h : KAt base w ps A c) {i : Nat} {p : KP} (hp : ps[i]? = some p) :
    ∃ g, A = some ⟨g, 0, none⟩ ∧ w.cell? ⟨g, i, none⟩ = some (.slice p.A p.n p.c) ∧ KeyAt w p.A p.n p.r ∧ ∀ a, p.A = some a → base ≤ a.block := by
  have hi : i < ps.length := (List.getElem?_eq_some_iff.1 hp).1
  have hs := Sl.own h.own
  obtain ⟨A', n', c', e, ho, hB⟩ := h.keys p (List.mem_of_getElem? hp)
  rcases h.own.2 with ⟨_, h0⟩ | ⟨g, cap, cur, hv, _, hg, _⟩
  · omega
  · injection hv with e1
    subst e1
    have hc := h.own.cells (g := g) rfl i p.val (by rw [List.getElem?_map, hp]; rfl)
    rw [add_flat, Nat.zero_add] at hc
    have e2 : p.val = .slice p.A p.n p.c := rfl
    rw [e2] at e
    injection e with e3 e4 e5
    subst e3; subst e4; subst e5
    exact ⟨g, rfl, hc, Sl.own ho, hB⟩

/-- a slice of bytes over a block of C -/
def RawKey (w : World) (C : Nat → Prop) (K : Value) : Prop := ∃ A n c xs, K = .slice A n c ∧ w.ownsRow 0 5 1 K n xs ∧ ∀ a, A = some a → C a.block
theorem own_set {w : World} {base g n : Nat} {K : Value} {xs : List Value} (h : w.ownsRow base 5 1 K n xs) (j : Nat) (u : Value) : ∃ ys, (w.setCell ⟨g, j, none⟩ u).ownsRow base 5 1 K n ys := by
  rcases h.2 with ⟨rfl, rfl⟩ | ⟨b, cap, cur, rfl, h2, h3, h4, h5, h6, h7⟩
  · exact ⟨[], World.ownsRow_nil _ _ _ _⟩
  · by_cases hb : b = g
    · subst hb
      have hB : Blk w b 5 cur := h3
      refine ⟨(cur.setIfInBounds j u).toList.take (n * 1), ?_, .inr ⟨b, cap, _, rfl, h2, hB.set_ j u, h4, h5, by simpa using h6, rfl⟩⟩
      simp only [List.length_take, Array.length_toList, Array.size_setIfInBounds]
      omega
    · have hB : Blk w b 5 cur := h3
      exact ⟨xs, h.1, .inr ⟨b, cap, cur, rfl, h2, hB.far (p := ⟨g, j, none⟩) hb u, h4, h5, h6, h7⟩⟩
theorem RawKey.set_ {w : World} {C : Nat → Prop} {K : Value} (h : RawKey w C K) (g j : Nat) (u : Value) : RawKey (w.setCell ⟨g, j, none⟩ u) C K := by
  obtain ⟨A, n, c, xs, rfl, ho, hC⟩ := h
  obtain ⟨ys, hy⟩ := own_set (g := g) ho j u
  exact ⟨A, n, c, ys, rfl, hy, hC⟩
theorem RawKey.of {w : World} {C B : Nat → Prop} {K : Value} {k : List UInt8} (h : OwnKey w B K k) (hC : ∀ g, B g → g < w.heap.size → C g) : RawKey w C K := by
  obtain ⟨A, n, c, rfl, ho, hB⟩ := h
  refine ⟨A, n, c, _, rfl, ho, fun a ha => hC _ (hB a ha) ?_⟩
  subst ha
  exact (ho.lt _ rfl).2
theorem RawKey.far {w w' : World} {C D : Nat → Prop} {K : Value} (h : RawKey w C K) (hc : Chg D w w') (hd : ∀ A n c, K = .slice A n c → ∀ a, A = some a → ¬ D a.block) : RawKey w' C K := by
  obtain ⟨A, n, c, xs, rfl, ho, hC⟩ := h
  refine ⟨A, n, c, xs, rfl, hc.own ho fun g hg => ?_, hC⟩
  cases A with
  | none => cases hg
  | some a =>
    injection hg with hg
    rw [← hg]
    exact hd _ _ _ rfl a rfl
end Go.Proofs.Ytlpbkhdpfmknkaa
