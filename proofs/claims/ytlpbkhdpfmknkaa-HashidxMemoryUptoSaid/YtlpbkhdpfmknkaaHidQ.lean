/-
  HashidxMemory: told keys that are written over and appended to.
-/
import Derived.Test.YtlpbkhdpfmknkaaHidZ
namespace Go.Proofs.Ytlpbkhdpfmknkaa
open Go.RowKit

/-- bytes alone are written -/
structure Soft (C : Nat → Prop) (w w' : World) : Prop where
  chg : Chg C w w'
  keep : ∀ k, k < w.heap.size → w'.heap[k]? = w.heap[k]? ∨ ∃ cur cur' : Array Value, w.heap[k]? = some (.cells cur 5 (0, 0)) ∧ w'.heap[k]? = some (.cells cur' 5 (0, 0)) ∧ cur'.size = cur.size
theorem Soft.of {C : Nat → Prop} {w w' : World} (h : Ext w w') : Soft C w w' := ⟨Chg.of h, fun _ hk => .inl (h.block hk)⟩
theorem Soft.blk {C : Nat → Prop} {w w' : World} (h : Soft C w w') {g : Nat} {t : TypeId} {cs : Array Value} (hb : Blk w g t cs) (ht : 5 ≠ t) : Blk w' g t cs := by
  rcases h.keep g hb.lt with h1 | ⟨cur, cur', h1, _⟩
  · exact h1.trans hb
  · unfold Blk at hb
    rw [hb] at h1
    injection h1 with h1
    injection h1 with _ h1
    exact absurd h1.symm ht
theorem RawKey.soft {C D : Nat → Prop} {w w' : World} {K : Value} (h : RawKey w C K) (hs : Soft D w w') : RawKey w' C K := by
  obtain ⟨A, n, c, xs, rfl, ho, hC⟩ := h
  rcases ho.2 with ⟨he, h0⟩ | ⟨g, cap, cur, hv, h2, h3, h4, h5, h6, h7⟩
  · injection he with e1 e2 e3
    subst e1; subst e2; subst e3
    exact ⟨none, 0, 0, [], rfl, World.ownsRow_nil _ _ _ _, hC⟩
  · injection hv with e1 e2 e3
    subst e1; subst e3
    rcases hs.keep g (Array.getElem?_eq_some_iff.1 h3).1 with h8 | ⟨cur0, cur', h8, h9, h10⟩
    · exact ⟨_, n, c, xs, rfl, ⟨ho.1, .inr ⟨g, c, cur, rfl, h2, h8.trans h3, h4, h5, h6, h7⟩⟩, hC⟩
    · rw [h3] at h8
      injection h8 with h8
      injection h8 with h8
      subst h8
      refine ⟨_, n, c, cur'.toList.take (n * 1), rfl, ⟨?_, .inr ⟨g, c, cur', rfl, h2, h9, h4, h5, by omega, rfl⟩⟩, hC⟩
      simp only [List.length_take, Array.length_toList]
      omega
theorem RawKey.mono {C D : Nat → Prop} {w : World} {K : Value} (h : RawKey w C K) (hC : ∀ g, C g → D g) : RawKey w D K := by
  obtain ⟨A, n, c, xs, e, ho, h1⟩ := h
  exact ⟨A, n, c, xs, e, ho, fun a ha => hC _ (h1 a ha)⟩
/-- a byte of such a key -/
theorem RawKey.byte {C : Nat → Prop} {w : World} {A : Option Addr} {n c : Nat} (h : RawKey w C (.slice A n c)) {j : Nat} (hj : j < n) : ∃ g u, A = some ⟨g, 0, none⟩ ∧ C g ∧ w.cell? ⟨g, j, none⟩ = some u ∧ w.frozen? ⟨g, j, none⟩ = false ∧ ∀ v, Soft C w (w.setCell ⟨g, j, none⟩ v) := by
  obtain ⟨A', n', c', xs, e, ho, hC⟩ := h
  injection e with e1 e2 e3
  subst e1; subst e2; subst e3
  rcases ho.2 with ⟨he, h0⟩ | ⟨g, cap, cur, hv, h2, h3, h4, h5, h6, h7⟩
  · omega
  · injection hv with e1 e2 e3
    subst e1; subst e3
    have hB : Blk w g 5 cur := h3
    have hl : j < cur.size := by omega
    refine ⟨g, cur[j], rfl, hC _ rfl, (hB.cell j).trans (Array.getElem?_eq_getElem hl), hB.frozen j, fun v => ⟨Chg.setCell (B := C) (p := ⟨g, j, none⟩) (Chg.refl C w) (.inl (hC ⟨g, 0, none⟩ rfl)) v, fun k hk => ?_⟩⟩
    by_cases hkg : k = g
    · subst hkg
      exact .inr ⟨cur, _, h3, hB.set_ j v, by simp⟩
    · exact .inl (Below.heap_setCell w ⟨g, j, none⟩ v k hkg)
/-- bytes are appended -/
theorem run_append_raw (w : World) (C : Nat → Prop) (A : Option Addr) (n c : Nat) (h : RawKey w C (.slice A n c)) (hn : n ≤ 4194304) (ad : Addr) (m mc : Nat) (news : List Value) (hl : news.length = m) (hnews : ∀ (j : Nat) (u : Value), news[j]? = some u → w.cell? (ad.add j) = some u) (h1 : ∀ u ∈ news, u.oneCell' = true) (hm : 0 < m) (hm2 : m ≤ 64) (ty : TypeId) :
    ∃ A' c' w', (Builtin.append_ #[30, 30] ty #[.slice A n c, .slice (some ad) m mc]).run Try.prog w = .ok (.slice A' (n + m) c') w' ∧ RawKey w' (fun g => C g ∨ w.heap.size ≤ g) (.slice A' (n + m) c') ∧ Soft C w w' := by
  obtain ⟨i0, hi0, hz0, hz1, hz2⟩ := info_parts infoU8'
  have hml : (4194368 : Nat) ≤ maxLen := by unfold maxLen; omega
  have grown : ∀ (olds : List Value) (old : Nat), olds.length = n →
      RawKey (w.drew.alloc (.cells (olds.toArray ++ news.toArray ++ Builtin.zeroCells (Value.int .u8 0).cells (grownCap w (n + m) old 5 - (n + m))) 5)) (fun g => C g ∨ w.heap.size ≤ g) (.slice (some ⟨w.heap.size, 0, none⟩) (n + m) (grownCap w (n + m) old 5)) := by
    intro olds old ho
    have hge := grownCap_ge w (n + m) old 5
    have hcm := grownCap_le_maxLen w (n + m) old 5 (by omega)
    have hsz : (olds.toArray ++ news.toArray ++ Builtin.zeroCells (Value.int .u8 0).cells (grownCap w (n + m) old 5 - (n + m))).size = grownCap w (n + m) old 5 := by
      have hz1 : (Value.int IntKind.u8 0).cells.size = 1 := rfl
      simp only [Array.size_append, List.size_toArray, size_zeroCells, hz1, ho, hl]
      omega
    refine ⟨_, _, _, _, rfl, ⟨?_, .inr ⟨w.heap.size, _, _, rfl, Nat.zero_le _, heap_alloc_new w.drew _, hge, hcm, by rw [hsz, Nat.mul_one], rfl⟩⟩, fun a ha => by injection ha with ha; subst ha; exact .inr (Nat.le_refl _)⟩
    rw [List.length_take, Array.length_toList, hsz]
    omega
  obtain ⟨A', n', c', xs, e, ho, hC⟩ := h
  injection e with e1 e2 e3
  subst e1; subst e2; subst e3
  have hxl : xs.length = n := by simpa using ho.1
  rcases ho.2 with ⟨he, h0⟩ | ⟨g, cap, cur, hv, h2, h3, h4, h5, h6, h7⟩
  · injection he with e1 e2 e3
    subst e1; subst e3; subst h0
    have hr := run_append_nil (P := Try.prog) w 30 ty 5 i0 _ Try.underlying30 hi0 hz0 ad m mc news (by rw [hz1, hl, Nat.mul_one]) hnews hm (by omega) (by rw [hz2]; omega)
    have hg := grown [] 0 rfl
    simp only [Nat.zero_add, Array.empty_append] at hg ⊢
    exact ⟨_, _, _, hr, hg, Soft.of ((Ext.drew w).alloc' _)⟩
  · injection hv with e1 e2 e3
    subst e1; subst e3
    by_cases hroom : n + m ≤ c
    · have hr := run_append_room (P := Try.prog) w 30 ty 5 i0 Try.underlying30 hi0 g n c cur h3 ad m mc news (by rw [hz1, hl, Nat.mul_one]) hnews h1 hroom (by rw [hz1, hl]; omega)
      have hsz : (cur.toList.take (n * i0.size) ++ news ++ cur.toList.drop (n * i0.size + news.length)).toArray.size = cur.size := by
        simp only [List.size_toArray, List.length_append, List.length_take, List.length_drop, Array.length_toList, hz1, hl]
        omega
      have hset := setRow_heap w g cur (cur.toList.take (n * i0.size) ++ news ++ cur.toList.drop (n * i0.size + news.length)).toArray _ _ h3
      refine ⟨_, _, _, hr, ⟨_, _, _, _, rfl, ⟨?_, .inr ⟨g, c, _, rfl, h2, hset, hroom, h5, by rw [hsz, h6], rfl⟩⟩, fun a ha => .inl (hC a ha)⟩, ⟨⟨rfl, rfl, rfl, by simp, fun k _ hk => setRow_other w g k _ fun e => hk (by subst e; exact hC _ rfl)⟩, fun k hk => ?_⟩⟩
      · rw [List.length_take, Array.length_toList, hsz]
        omega
      · by_cases hkg : k = g
        · subst hkg
          exact .inr ⟨cur, _, h3, hset, hsz⟩
        · exact .inl (setRow_other w g k _ hkg)
    · have holds : ∀ (j : Nat) (u : Value), xs[j]? = some u → w.cell? ((⟨g, 0, none⟩ : Addr).add j) = some u := ho.cells (g := g) rfl
      have hr := run_append_grow (P := Try.prog) w 30 ty 5 i0 _ Try.underlying30 hi0 hz0 ⟨g, 0, none⟩ n c xs (by rw [hz1]; simpa using hxl) holds ad m mc news (by rw [hz1, hl, Nat.mul_one]) hnews (by omega) (by omega) (by rw [hz2]; exact growslice_fits (by omega) (by omega))
      exact ⟨_, _, _, hr, grown xs c hxl, Soft.of ((Ext.drew w).alloc' _)⟩
theorem wpList_append_raw {w : World} {ops : Array Oper} {rest : List Oper} {o : Oper} {a : Act} {Q : Exit → Act → World → Prop} (hgd : o.guard = none) (sl x : Operand)
    (ho : o.op = .call { callee := .builtin .append, args := #[sl, x], argTypes := #[30, 30] })
    (C : Nat → Prop) (A : Option Addr) (n c : Nat) (hs : a.eval sl = .slice A n c) (h : RawKey w C (.slice A n c)) (hn : n ≤ 4194304)
    (ad : Addr) (m mc : Nat) (hx : a.eval x = .slice (some ad) m mc) (news : List Value) (hl : news.length = m) (hnews : ∀ (j : Nat) (u : Value), news[j]? = some u → w.cell? (ad.add j) = some u) (h1 : ∀ u ∈ news, u.oneCell' = true) (hm : 0 < m) (hm2 : m ≤ 64)
    (K : ∀ A' c' w', Hid (RawKey w' (fun g => C g ∨ w.heap.size ≤ g) (.slice A' (n + m) c')) → Hid (Soft C w w') → wpList Try.prog ops Q rest (a.put o.dst (.slice A' (n + m) c')) w') : wpList Try.prog ops Q (o :: rest) a w := by
  obtain ⟨A', c', w', hrun, h2, h3⟩ := run_append_raw w C A n c h hn ad m mc news hl hnews h1 hm hm2 o.type
  refine wpList_plain hgd fun _ hK => ?_
  unfold Oper.wp execOp
  simp only [ho, resolve, invoke, builtin, Sem.run_bind, Sem.run_pure, Result.andThen_ok, List.map_toArray, List.map_cons, List.map_nil, hs, hx, hrun]
  exact hK _ _ (K A' c' w' h2 h3)

/-- a row of such keys -/
structure RowRaw (w : World) (C : Nat → Prop) (g n k : Nat) (csa : Array Value) : Prop where
  blk : Blk w g 30 csa
  keys : ∀ i, i < n → ∃ A m c, csa[i]? = some (.slice A m c) ∧ RawKey w C (.slice A m c) ∧ (k ≤ i → m ≤ 4096)
def RawAt (w : World) (C : Nat → Prop) (A : Option Addr) (n k : Nat) : Prop := 0 < n → ∃ g csa, A = some ⟨g, 0, none⟩ ∧ C g ∧ RowRaw w C g n k csa
theorem RowRaw.soft {w w' : World} {C D : Nat → Prop} {g n k : Nat} {csa : Array Value} (h : RowRaw w C g n k csa) (hs : Soft D w w') : RowRaw w' C g n k csa :=
  ⟨hs.blk h.blk (by decide), fun i hi => by
    obtain ⟨A, m, c, h1, h2, h3⟩ := h.keys i hi
    exact ⟨A, m, c, h1, h2.soft hs, h3⟩⟩
theorem RowRaw.mono {w : World} {C D : Nat → Prop} {g n k : Nat} {csa : Array Value} (h : RowRaw w C g n k csa) (hC : ∀ g, C g → D g) : RowRaw w D g n k csa :=
  ⟨h.blk, fun i hi => by
    obtain ⟨A, m, c, h1, h2, h3⟩ := h.keys i hi
    exact ⟨A, m, c, h1, h2.mono hC, h3⟩⟩
theorem RawAt.soft {w w' : World} {C D : Nat → Prop} {A : Option Addr} {n k : Nat} (h : RawAt w C A n k) (hs : Soft D w w') : RawAt w' C A n k := fun hn => by
  obtain ⟨g, csa, h1, h2, h3⟩ := h hn
  exact ⟨g, csa, h1, h2, h3.soft hs⟩
theorem RawAt.mono {w : World} {C D : Nat → Prop} {A : Option Addr} {n k : Nat} (h : RawAt w C A n k) (hC : ∀ g, C g → D g) : RawAt w D A n k := fun hn => by
  obtain ⟨g, csa, h1, h2, h3⟩ := h hn
  exact ⟨g, csa, h1, hC g h2, h3.mono hC⟩
theorem KAt.raw {base : Nat} {w : World} {ps : List KP} {A : Option Addr} {c : Nat} (h : KAt base w ps A c) (hsm : ∀ p ∈ ps, p.n ≤ 4096) : RawAt w (fun g => base ≤ g ∧ g < w.heap.size) A ps.length 0 := fun hn => by
  rcases h.own.2 with ⟨_, h0⟩ | ⟨g, cap, cur, hv, h2, h3, h4, h5, h6, h7⟩
  · omega
  · injection hv with e1 e2 e3
    subst e1
    refine ⟨g, cur, rfl, ⟨h2, (Array.getElem?_eq_some_iff.1 h3).1⟩, h3, fun i hi => ?_⟩
    have hp : ps[i]? = some ps[i] := List.getElem?_eq_getElem hi
    have h8 : (ps.map KP.val)[i]? = some (ps[i].val) := by rw [List.getElem?_map, hp]; rfl
    rw [← h7, List.getElem?_take] at h8
    split at h8
    · have h9 : cur[i]? = some ps[i].val := by simpa using h8
      exact ⟨ps[i].A, ps[i].n, ps[i].c, h9, RawKey.of (h.keys _ (List.getElem_mem hi)) fun g hg hl => ⟨hg, hl⟩, fun _ => hsm _ (List.getElem_mem hi)⟩
    · cases h8
/-- another slice is stored in the row -/
theorem RowRaw.put {w w' : World} {C : Nat → Prop} {g n i : Nat} {csa : Array Value} {v : Value} (h : RowRaw w C g n i csa) (hs : Soft C w w') (hv : RawKey w' (fun k => C k ∨ w.heap.size ≤ k) v) (hC : ∀ k, w.heap.size ≤ k → C k) (hg : C g) (hi : i < n) :
    RowRaw (w'.setCell ⟨g, i, none⟩ v) C g n (i + 1) (csa.setIfInBounds i v) ∧ Chg C w (w'.setCell ⟨g, i, none⟩ v) := by
  have hb : Blk w' g 30 csa := hs.blk h.blk (by decide)
  have hc : Chg (fun k => k = g) w' (w'.setCell ⟨g, i, none⟩ v) := chg_one w' ⟨g, i, none⟩ v
  have hkeep : ∀ {K : Value}, RawKey w' C K → RawKey (w'.setCell ⟨g, i, none⟩ v) C K := fun hK => hK.far hc fun A n c e a ha hx => by
    obtain ⟨A', n', c', xs, e', ho, _⟩ := hK
    exact absurd (by rw [e, ha, ← hx]; rfl) (own_type ho hb (by decide))
  refine ⟨⟨hb.set_ i v, fun j hj => ?_⟩, hs.chg.trans' (Chg.setCell (B := C) (p := ⟨g, i, none⟩) (Chg.refl C w') (.inl hg) v)⟩
  by_cases hji : i = j
  · subst hji
    have hlt : i < csa.size := by
      obtain ⟨A, m, c, h1, _⟩ := h.keys i hi
      exact (Array.getElem?_eq_some_iff.1 h1).1
    have hv2 := hkeep (hv.mono fun k hk => hk.elim id (hC k))
    obtain ⟨A, m, c, xs, rfl, h2, h3⟩ := hv2
    exact ⟨A, m, c, by rw [Array.getElem?_setIfInBounds_self_of_lt hlt], ⟨A, m, c, xs, rfl, h2, h3⟩, fun hx => (by omega)⟩
  · obtain ⟨A, m, c, h1, h2, h3⟩ := h.keys j hj
    exact ⟨A, m, c, by rw [Array.getElem?_setIfInBounds_ne hji]; exact h1, hkeep (h2.soft hs), fun hx => h3 (by omega)⟩

theorem HIx.small {w : World} {B : Nat → Prop} {x most probes : Nat} {E : List (List UInt8 × Int)} (h : HIx w B x most probes E) : ∀ k ∈ E.map (·.1), k.length ≤ 4096 := fun k hk => by
  obtain ⟨tb, T, Ks, _, _, hE, _, _, h3, _⟩ := h.at_
  obtain ⟨⟨k', v⟩, hp, rfl⟩ := List.mem_map.1 hk
  obtain ⟨i, p, hp2, _, rfl, _⟩ := mem_ents.1 (hE.mem_iff.2 hp)
  exact h3 p (List.mem_of_getElem? hp2)
theorem KAt.small {base : Nat} {w : World} {ps : List KP} {A : Option Addr} {c : Nat} (h : KAt base w ps A c) {E : List (List UInt8 × Int)} (hp : List.Perm (ps.map KP.r) (E.map (·.1))) (hs : ∀ k ∈ E.map (·.1), k.length ≤ 4096) : ∀ p ∈ ps, p.n ≤ 4096 := fun p hm => by
  obtain ⟨i, hi, e⟩ := List.getElem_of_mem hm
  obtain ⟨g, _, _, hk, _⟩ := h.get (i := i) (p := p) (by rw [List.getElem?_eq_getElem hi, e])
  have := hk.len
  have := hs p.r (hp.mem_iff.1 (List.mem_map_of_mem hm))
  omega
theorem KAt.has {base g : Nat} {w : World} {ps : List KP} {c : Nat} (h : KAt base w ps (some ⟨g, 0, none⟩) c) {i : Nat} {p : KP} (hp : ps[i]? = some p) : w.cell? ⟨g, i, none⟩ = some (.slice p.A p.n p.c) ∧ KeyAt w p.A p.n p.r := by
  obtain ⟨g', e, h1, h2, _⟩ := h.get hp
  injection e with e
  injection e with e
  subst e
  exact ⟨h1, h2⟩
/-- the texts of told keys -/
def txC (ps : List KP) : List Value := ps.map fun p => .string ⟨p.r.toArray⟩
/-- what holds from the lists on: the index's keys, twice told; the second told ones' texts -/
structure MMid (w0 : World) (sA sB : Nat) (w : World) (x probes : Nat) (B : Nat → Prop) (E : List (List UInt8 × Int)) (ps : List KP) (A : Option Addr) (c gc : Nat) : Prop where
  ix : HIx w B x 1048576 probes E
  low : ∀ b, B b → w0.heap.size ≤ b ∧ b < sA
  kat : KAt sB w ps A c
  txt : Blk w gc 9 (txC ps).toArray
  gt : sB ≤ gc
  sub : sA ≤ sB ∧ w0.heap.size ≤ sA
  perm : List.Perm (ps.map KP.r) (E.map (·.1))
  sorted : ps.Pairwise kpLe
  ext : Ext w0 w
theorem MMid.far {w0 w w' : World} {sA sB x probes : Nat} {B C : Nat → Prop} {E : List (List UInt8 × Int)} {ps : List KP} {A : Option Addr} {c gc : Nat} (h : MMid w0 sA sB w x probes B E ps A c gc) (hc : Chg C w w') (hC : ∀ g, C g → g < w.heap.size → sA ≤ g ∧ g < sB) : MMid w0 sA sB w' x probes B E ps A c gc := by
  have hw : Chg (fun g => C g ∧ g < w.heap.size) w w' := hc.mono fun g h1 h2 => ⟨h1, h2⟩
  refine ⟨h.ix.far hw fun g hg hx => ?_, h.low, h.kat.far hc fun g h1 h2 h3 => ?_, hc.blk h.txt fun hx => ?_, h.gt, h.sub, h.perm, h.sorted, hw.ext h.ext fun g hg => ?_⟩
  · have := h.low g hg
    have := hC g hx.1 hx.2
    omega
  · have := hC g h3 h2
    omega
  · have := hC _ hx h.txt.lt
    have := h.gt
    omega
  · have := hC g hg.1 hg.2
    have := h.sub
    omega
theorem MMid.go {w0 w w' : World} {sA sB x probes : Nat} {B : Nat → Prop} {E : List (List UInt8 × Int)} {ps : List KP} {A : Option Addr} {c gc : Nat} (h : MMid w0 sA sB w x probes B E ps A c gc) (hw : Ext w w') : MMid w0 sA sB w' x probes B E ps A c gc :=
  h.far (C := fun _ => False) (Chg.of hw) fun _ hx => hx.elim
theorem MMid.get {w0 w w' : World} {sA sB x probes : Nat} {B : Nat → Prop} {E : List (List UInt8 × Int)} {ps : List KP} {A : Option Addr} {c gc : Nat} (h : MMid w0 sA sB w x probes B E ps A c gc) (hx : HIx w' B x 1048576 (probes + 1) E) (hc : Chg B w w') : MMid w0 sA sB w' x (probes + 1) B E ps A c gc := by
  refine ⟨hx, h.low, h.kat.far hc fun g h1 h2 h3 => ?_, hc.blk h.txt fun hx => ?_, h.gt, h.sub, h.perm, h.sorted, hc.ext h.ext fun g hg => (h.low g hg).1⟩
  · have := h.low g h3
    have := h.sub
    omega
  · have := h.low _ hx
    have := h.gt
    have := h.sub
    omega
end Go.Proofs.Ytlpbkhdpfmknkaa
