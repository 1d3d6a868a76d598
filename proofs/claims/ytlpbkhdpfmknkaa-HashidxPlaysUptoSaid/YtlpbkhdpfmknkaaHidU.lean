/-
  hashidx: Put at a key that is not there.
-/
import Derived.Test.YtlpbkhdpfmknkaaHidT
namespace Go.Proofs.Ytlpbkhdpfmknkaa
open Go.RowKit

theorem OwnKey.lt {w : World} {B : Nat → Prop} {K : Value} {k : List UInt8} (h : OwnKey w B K k) : OwnKey w (fun b => B b ∧ b < w.heap.size) K k := by
  obtain ⟨A, n, c, rfl, h2, h3⟩ := h
  refine ⟨A, n, c, rfl, h2, fun a ha => ⟨h3 a ha, ?_⟩⟩
  subst ha
  rcases h2.2 with ⟨h4, _⟩ | ⟨g, cap, cur, h4, _, h5, _⟩
  · cases h4
  · injection h4 with h4
    injection h4 with h4
    subst h4
    exact Blk.lt h5
theorem IxAt.wide {w : World} {B C : Nat → Prop} {x tb most size marks probes : Nat} {T : List Pl} {Ks : List Value} (h : IxAt w B x tb most size marks probes T Ks) (hC : ∀ b, B b → C b) : IxAt w C x tb most size marks probes T Ks :=
  ⟨h.blk, ⟨h.tab.blk, h.tab.len, fun i p K h1 h2 => (h.tab.keys i p K h1 h2).mono hC, hC _ h.tab.inB⟩, h.pow, hC _ h.inB⟩
theorem IxAt.lt {w : World} {B : Nat → Prop} {x tb most size marks probes : Nat} {T : List Pl} {Ks : List Value} (h : IxAt w B x tb most size marks probes T Ks) : IxAt w (fun b => B b ∧ b < w.heap.size) x tb most size marks probes T Ks :=
  ⟨h.blk, ⟨h.tab.blk, h.tab.len, fun i p K h1 h2 => (h.tab.keys i p K h1 h2).lt, h.tab.inB, h.tab.blk.lt⟩, h.pow, h.inB, h.blk.lt⟩

/-- all is laid out for a new key: it comes to the place f -/
structure Ready (w0 W : World) (B B1 : Nat → Prop) (x tb most probes m : Nat) (T : List Pl) (Ks : List Value) (E : List (List UInt8 × Int)) (key : List UInt8) (f : Nat) (q : Pl) : Prop where
  ix : IxAt W B1 x tb most E.length m (probes + 1) T Ks
  good : HGood T
  perm : List.Perm (ents T) E
  at_ : T[f]? = some q
  free : FreeAt T key f
  no : ∀ (i : Nat) (p : Pl), T[i]? = some p → p.st = 1 → p.key ≠ key
  room : 4 * (E.length + goneN T + 1) ≤ 3 * T.length
  len : T.length ≤ 4 * most + 8
  keys : ∀ p ∈ T, p.key.length ≤ 4096
  ne : x ≠ tb
  sub : ∀ b, B1 b → B b ∨ w0.heap.size ≤ b
  chg : Chg B w0 W
theorem Ready.ext {w0 W W' : World} {B B1 : Nat → Prop} {x tb most probes m : Nat} {T : List Pl} {Ks : List Value} {E : List (List UInt8 × Int)} {key : List UInt8} {f : Nat} {q : Pl} (h : Ready w0 W B B1 x tb most probes m T Ks E key f q) (hw : Ext W W') : Ready w0 W' B B1 x tb most probes m T Ks E key f q :=
  { h with ix := h.ix.ext hw, chg := h.chg.trans' (Chg.of hw) }
theorem Ready.marks {w0 W : World} {B B1 : Nat → Prop} {x tb most probes m : Nat} {T : List Pl} {Ks : List Value} {E : List (List UInt8 × Int)} {key : List UInt8} {f : Nat} {q : Pl} (h : Ready w0 W B B1 x tb most probes m T Ks E key f q) (m2 : Nat) (u : Int) (hu : u = (m2 : Int)) : Ready w0 (W.setCell ⟨x, 2, none⟩ (.int .i64 u)) B B1 x tb most probes m2 T Ks E key f q :=
  { h with ix := h.ix.setMarks h.ne m2 u hu, chg := h.chg.setCell (h.sub x h.ix.inB) _ }
theorem Ready.fin {w0 W W9 : World} {B B1 : Nat → Prop} {x tb most probes m : Nat} {T : List Pl} {Ks : List Value} {E : List (List UInt8 × Int)} {key : List UInt8} {f : Nat} {q : Pl} (h : Ready w0 W B B1 x tb most probes m T Ks E key f q) (hm : m + (if q.st = 2 then 1 else 0) = goneN T) (hw : Ext W W9) (v : Int) {K : Value}
    (hK : OwnKey W9 (fun b => w0.heap.size ≤ b) K key) (hk : key.length ≤ 4096) (hE : E.length < most) (hmo : most ≤ 1048576) :
    let W11 := (setPl W9 tb f ⟨1, key, v⟩ K).setCell ⟨x, 1, none⟩ (.int .i64 ((E.length : Int) + 1))
    PutPost w0 B x most probes E key v (.returned (.tuple #[.int .i64 0, .bool false, .int .i64 0])) W11 := by
  have hfl : f < T.length := (List.getElem?_eq_some_iff.1 h.at_).1
  obtain ⟨g1, g2, q', hq', g3⟩ := put_good (n := v) h.good h.free h.no (by
    have h1 := h.perm.length_eq
    have h2 := h.room
    have h3 := h.good.pos
    omega)
  rw [h.at_] at hq'
  injection hq' with hq'
  subst hq'
  have hC : ∀ b, B1 b → (B b ∨ w0.heap.size ≤ b) := h.sub
  have hI := (h.ix.ext hw).wide hC
  have hI2 := hI.put h.ne hfl ⟨1, key, v⟩ K (hK.mono fun b hb => .inr hb)
  have hI3 := (hI2.setSize h.ne ((key, v) :: E).length ((E.length : Int) + 1) (by rw [List.length_cons]; omega)).lt
  have hgm : m = goneN (T.set f ⟨1, key, v⟩) := by omega
  rw [hgm] at hI3
  have hC9 : Chg B w0 ((setPl W9 tb f ⟨1, key, v⟩ K).setCell ⟨x, 1, none⟩ (.int .i64 ((E.length : Int) + 1))) :=
    ((h.chg.trans' (Chg.of hw)).trans (C := fun g => g = tb) (setPl_chg _ _ _ _ _) fun g hg hl => by
      subst hg
      rcases h.sub _ h.ix.tab.inB with h5 | h5
      · exact h5
      · omega).setCell (h.sub x h.ix.inB) _
  have hroom := h.room
  refine ⟨0, false, 0, (key, v) :: E, _, rfl, .inr (.inr (.inr ⟨hk, fun u hu => ?_, hE, rfl, rfl, rfl, rfl⟩)), ⟨⟨tb, _, _, hI3, g1, g2.trans (List.Perm.cons _ h.perm), ?_, by rw [List.length_set]; exact h.len, fun p hp => ?_, h.ne⟩, ⟨by rw [List.length_cons]; omega, hmo⟩, fun b hb => hb.2⟩, fun b hb => hb.1, hC9⟩
  · obtain ⟨i, p, q1, q2, q3, _⟩ := mem_ents.1 (h.perm.mem_iff.2 hu)
    exact h.no i p q1 q2 q3
  · rw [List.length_set, List.length_cons]; omega
  · rcases List.mem_or_eq_of_mem_set hp with hp | rfl
    · exact h.keys p hp
    · exact hk
end Go.Proofs.Ytlpbkhdpfmknkaa
