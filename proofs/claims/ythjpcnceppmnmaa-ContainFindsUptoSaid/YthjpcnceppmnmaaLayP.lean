/-
  The state of a laying: which blocks it may turn.
-/
import Derived.Test.YthjpcnceppmnmaaUpon
import Derived.Test.YthjpcnceppmnmaaExt2
namespace Go.Proofs.Ythjpcnceppmnmaa
open Go.RowKit

/-- what was there stays, but for the blocks in S -/
structure ExtS (S : Nat → Prop) (w w' : World) : Prop where
  os : w'.os = w.os
  tape : w'.tape = w.tape
  output : w'.output = w.output
  size : w.heap.size ≤ w'.heap.size
  block : ∀ k, k < w.heap.size → ¬ S k → w'.heap[k]? = w.heap[k]?
theorem ExtS.refl (S : Nat → Prop) (w : World) : ExtS S w w := ⟨rfl, rfl, rfl, Nat.le_refl _, fun _ _ _ => rfl⟩
theorem ExtS.trans {S S' : Nat → Prop} {a b c : World} (h : ExtS S a b) (k : ExtS S' b c) (hs : ∀ j, j < a.heap.size → S' j → S j) : ExtS S a c :=
  ⟨k.os.trans h.os, k.tape.trans h.tape, k.output.trans h.output, Nat.le_trans h.size k.size, fun j hj hn => (k.block j (Nat.lt_of_lt_of_le hj h.size) (fun e => hn (hs j hj e))).trans (h.block j hj hn)⟩
theorem ExtS.ext {S : Nat → Prop} {a b c : World} (h : ExtS S a b) (k : Ext b c) : ExtS S a c :=
  ⟨(Below.os k).trans h.os, (Below.tape k).trans h.tape, (Below.output k).trans h.output, Nat.le_trans h.size k.size, fun j hj hn => (k.block (Nat.lt_of_lt_of_le hj h.size)).trans (h.block j hj hn)⟩
theorem ExtS.grown {S : Nat → Prop} {a b c : World} {row : Option Nat} (h : ExtS S a b) (k : b.grownBy c row) (hs : ∀ j, row = some j → j < a.heap.size → S j) : ExtS S a c :=
  ⟨k.os.trans h.os, k.tape.trans h.tape, k.output.trans h.output, Nat.le_trans h.size k.size, fun j hj hn => (k.block j (Nat.lt_of_lt_of_le hj h.size) (fun e => hn (hs j e.symm hj))).trans (h.block j hj hn)⟩
theorem ExtS.set {S : Nat → Prop} {a b : World} (h : ExtS S a b) {p : Addr} (hp : S p.block) (u : Value) : ExtS S a (b.setCell p u) :=
  ⟨h.os, h.tape, h.output, by simpa using h.size, fun j hj hn => (Below.heap_setCell _ _ _ _ (fun e => hn (by rw [e]; exact hp))).trans (h.block j hj hn)⟩
theorem ExtS.blk {S : Nat → Prop} {w w' : World} (h : ExtS S w w') {g : Nat} {t : TypeId} {cs : Array Value} (hb : Blk w g t cs) (hg : ¬ S g) : Blk w' g t cs := (h.block g hb.lt hg).trans hb
theorem ExtS.toExt {S : Nat → Prop} {w0 w w' : World} (h0 : Ext w0 w) (h : ExtS S w w') (hS : ∀ j, S j → w0.heap.size ≤ j) : Ext w0 w' :=
  ⟨h.os.trans (Below.os h0), h.tape.trans (Below.tape h0), h.output.trans (Below.output h0), Nat.le_trans h0.size h.size, fun j hj => (h.block j (Nat.lt_of_lt_of_le hj h0.size) (fun e => by have := hS j e; omega)).trans (h0.block hj)⟩
theorem ExtS.own {S : Nat → Prop} {w w' : World} (h : ExtS S w w') {base : Nat} {e : TypeId} {s n : Nat} {v : Value} {xs : List Value} (ho : w.ownsRow base e s v n xs) (hS : ∀ k, v.ownBlock = some k → ¬ S k) : w'.ownsRow base e s v n xs := by
  refine ⟨ho.1, ?_⟩
  rcases ho.2 with h1 | ⟨g, cap, cur, rfl, h2, h3, h4⟩
  · exact .inl h1
  · refine .inr ⟨g, cap, cur, rfl, h2, ?_, h4⟩
    have hlt : g < w.heap.size := by
      rcases Nat.lt_or_ge g w.heap.size with hlt | hge
      · exact hlt
      · rw [Array.getElem?_eq_none hge] at h3; cases h3
    exact (h.block g hlt (hS g rfl)).trans h3

def intC (im : List Nat) : List Value := im.map fun (j : Nat) => Value.int .i64 (j : Int)
theorem intC_len (im : List Nat) : (intC im).length = im.length := by simp [intC]
theorem intC_snoc (im : List Nat) (j : Nat) : intC (im ++ [j]) = intC im ++ [.int .i64 (j : Int)] := by simp [intC]
theorem infoI2 : (Try.prog.info? 3).map (fun i => (i.zero, i.size, i.bytes)) = some (some (.int .i64 0), 1, 8) := by kernel_rfl
/-- the images so far: a variable's block gI, a row of the call's own -/
structure IAt (w : World) (gI base : Nat) (A : Option Addr) (c : Nat) (im : List Nat) : Prop where
  var : Blk w gI 27 #[.slice A im.length c]
  own : w.ownsRow base 3 1 (.slice A im.length c) im.length (intC im)
/-- the first of them -/
theorem own_take {w : World} {base : Nat} {e : TypeId} {n c : Nat} {A : Option Addr} {xs : List Value} (h : w.ownsRow base e 1 (.slice A n c) n xs) (k : Nat) (hk : k ≤ n) : w.ownsRow base e 1 (.slice A k c) k (xs.take k) := by
  rcases h.2 with ⟨h1, h2⟩ | ⟨g, cap, cur, h1, h2, h3, h4, h5, h6, h7⟩
  · injection h1 with e1 e2 e3
    subst e2
    obtain rfl : k = 0 := by omega
    refine ⟨by simp, .inl ⟨by rw [e1, e3], rfl⟩⟩
  · injection h1 with e1 e2 e3
    subst e1; subst e3
    refine ⟨by rw [List.length_take, h.1]; omega, .inr ⟨g, c, cur, rfl, h2, h3, by omega, h5, h6, ?_⟩⟩
    rw [← h7, List.take_take]
    congr 1
    omega

def Kb : Nat → Nat
  | 0 => 0
  | r + 1 => 8 * (8 + Kb r)
theorem Kb_le : ∀ r, r ≤ 6 → Kb r ≤ 4194304 := by
  intro r hr
  have : ∀ r : Fin 7, Kb r.1 ≤ 4194304 := by decide
  exact this ⟨r, by omega⟩

/-- the blocks of a laying -/
structure LSt (W0 w : World) (f t : Qy) (LF LT : QLoc) (gF gT gM gI gL g : Nat) : Prop where
  ext : Ext W0 w
  bF : Blk w gF 25 #[.string f.name, .slice LF.A LF.n LF.c, .slice LF.B LF.m LF.d]
  bT : Blk w gT 25 #[.string t.name, .slice LT.A LT.n LT.c, .slice LT.B LT.m LT.d]
  bM : Blk w gM 71 #[.map (some g)]
  bL : Blk w gL 77 #[.func (.func 37) #[] #[.pointer (some ⟨gF, 0, none⟩), .pointer (some ⟨gT, 0, none⟩), .pointer (some ⟨gM, 0, none⟩), .pointer (some ⟨gI, 0, none⟩), .pointer (some ⟨gL, 0, none⟩)]]
theorem LSt.go {W0 w w' : World} {f t : Qy} {LF LT : QLoc} {gF gT gM gI gL g : Nat} {S : Nat → Prop} (h : LSt W0 w f t LF LT gF gT gM gI gL g) (hw : ExtS S w w') (hS : ∀ j, S j → W0.heap.size ≤ j) (n1 : ¬ S gF) (n2 : ¬ S gT) (n3 : ¬ S gM) (n4 : ¬ S gL) : LSt W0 w' f t LF LT gF gT gM gI gL g :=
  ⟨hw.toExt h.ext hS, hw.blk h.bF n1, hw.blk h.bT n2, hw.blk h.bM n3, hw.blk h.bL n4⟩

/-- what a laying may turn: the map, the images' variable, the images' row -/
def SL (g gI : Nat) (A : Option Addr) : Nat → Prop := fun k => k = g ∨ k = gI ∨ ∃ a, A = some a ∧ k = a.block
theorem SL.own {g gI : Nat} {A : Option Addr} {n c : Nat} {k : Nat} (h : (Value.slice A n c).ownBlock = some k) : SL g gI A k := by
  cases A with
  | none => simp [Value.ownBlock] at h
  | some a => simp only [Value.ownBlock, Option.some.injEq] at h; exact .inr (.inr ⟨a, rfl, h.symm⟩)
theorem SL.not {w : World} {g gI g' k base m : Nat} {t : TypeId} {cs cs' : Array Value} {A : Option Addr} {n c : Nat} {σ : SMap} {xs : List Value} (hb : Blk w g' t cs) (hm : MapS w g k σ) (hi : Blk w gI 27 cs') (ho : w.ownsRow base 3 1 (.slice A n c) m xs)
    (h1 : t ≠ 27) (h2 : 3 ≠ t) : ¬ SL g gI A g' := by
  rintro (h | h | ⟨a, h, h3⟩)
  · exact hm.ne_blk hb h.symm
  · exact blk_ne hb hi h1 h
  · subst h
    exact own_ne_blk ho hb h2 (by simp [Value.ownBlock, h3])
theorem SL.new {W0 w : World} {g gI base m : Nat} {A : Option Addr} {n c : Nat} {xs : List Value} {e : TypeId} {s : Nat} (hg : W0.heap.size ≤ g) (hi : W0.heap.size ≤ gI) (hb : W0.heap.size ≤ base) (ho : w.ownsRow base e s (.slice A n c) m xs) : ∀ j, SL g gI A j → W0.heap.size ≤ j := by
  rintro j (h | h | ⟨a, h, h3⟩)
  · omega
  · omega
  · subst h
    have := (ho.lt a.block (by simp [Value.ownBlock])).1
    omega

/-- rows of different element types lie in different blocks -/
theorem own_own {w : World} {b1 b2 : Nat} {e1 e2 : TypeId} {s1 s2 n1 n2 : Nat} {v1 v2 : Value} {x1 x2 : List Value} (h1 : w.ownsRow b1 e1 s1 v1 n1 x1) (h2 : w.ownsRow b2 e2 s2 v2 n2 x2) (hne : e1 ≠ e2) {k : Nat} (hk : v1.ownBlock = some k) : v2.ownBlock ≠ some k := by
  rcases h1.2 with ⟨rfl, _⟩ | ⟨g', cap, cur, rfl, _, hh, _⟩
  · simp [Value.ownBlock] at hk
  · intro he
    have hk' : g' = k := by simpa [Value.ownBlock] using hk
    subst hk'
    exact own_ne_blk h2 (show Blk w g' e1 cur from hh) (Ne.symm hne) he.symm
/-- the row lies where it lay, or in a block that is new since w -/
def From (A : Option Addr) (w : World) (A' : Option Addr) : Prop := ∀ a, A' = some a → A = some ⟨a.block, 0, none⟩ ∨ w.heap.size ≤ a.block
theorem From.refl {w : World} {base : Nat} {e : TypeId} {n c m : Nat} {A : Option Addr} {xs : List Value} {s : Nat} (h : w.ownsRow base e s (.slice A n c) m xs) (w' : World) : From A w' A := fun a ha => by
  subst ha
  rcases h.2 with ⟨h1, _⟩ | ⟨g', cap, cur, h1, _⟩
  · injection h1 with h1; cases h1
  · injection h1 with h1
    injection h1 with h1
    subst h1
    exact .inl rfl
theorem From.trans {A A' A'' : Option Addr} {w w' : World} (h1 : From A w A') (hs : w.heap.size ≤ w'.heap.size) (h2 : From A' w' A'') : From A w A'' := fun a ha => by
  rcases h2 a ha with h | h
  · have := h1 ⟨a.block, 0, none⟩ h
    exact this
  · exact .inr (by omega)
theorem From.grown {A A' : Option Addr} {w : World} {base : Nat} {e : TypeId} {n c m n' c' s : Nat} {xs : List Value} (h : w.ownsRow base e s (.slice A n c) m xs) (hl : (Value.slice A' n' c').ownBlock = (Value.slice A n c).ownBlock ∨ (Value.slice A' n' c').ownBlock = some w.heap.size) : From A w A' := fun a ha => by
  subst ha
  rcases hl with hl | hl
  · cases A with
    | none => simp [Value.ownBlock] at hl
    | some a' =>
      simp only [Value.ownBlock, Option.some.injEq] at hl
      rcases h.2 with ⟨h1, _⟩ | ⟨g', cap, cur, h1, _⟩
      · injection h1 with h1; cases h1
      · injection h1 with h1
        injection h1 with h1
        subst h1
        simp only at hl
        rw [hl]; exact .inl rfl
  · simp only [Value.ownBlock, Option.some.injEq] at hl
    exact .inr (by omega)
theorem SL.from_ {g gI : Nat} {A A' : Option Addr} {w : World} (h : From A w A') {k : Nat} (hk : k < w.heap.size) (hs : SL g gI A' k) : SL g gI A k := by
  rcases hs with h1 | h1 | ⟨a, h1, h2⟩
  · exact .inl h1
  · exact .inr (.inl h1)
  · rcases h a h1 with h3 | h3
    · exact .inr (.inr ⟨_, h3, h2⟩)
    · omega

def LPost (W0 w : World) (g gI base : Nat) (A : Option Addr) (r : Option (List Nat)) (k : Nat) (σ : Env) (im : List Nat) (en : Ending) (w' : World) : Prop :=
  ∃ A' c', en = .returned (.bool r.isSome) ∧ ExtS (SL g gI A) w w' ∧ From A w A' ∧ (match r with
    | some l => IAt w' gI base A' c' (im ++ l)
    | none => IAt w' gI base A' c' im ∧ MapT w' g k σ)

theorem uponGo_fr : ∀ (ts us : List Tm) (σ : Env), (uponGo σ ts us).2.1.length ≤ ts.length ∧ ∀ x ∈ (uponGo σ ts us).2.1, ∃ t ∈ ts, t.v = x
  | [], _, σ => by simp [uponGo]
  | _ :: _, [], σ => by simp [uponGo]
  | t :: ts, u :: us, σ => by
    simp only [uponGo]
    split
    · split
      · obtain ⟨h1, h2⟩ := uponGo_fr ts us σ
        exact ⟨by simp only [List.length_cons]; omega, fun x hx => let ⟨t', ht, e⟩ := h2 x hx; ⟨t', by simp [ht], e⟩⟩
      · simp
    · split
      · split
        · obtain ⟨h1, h2⟩ := uponGo_fr ts us σ
          exact ⟨by simp only [List.length_cons]; omega, fun x hx => let ⟨t', ht, e⟩ := h2 x hx; ⟨t', by simp [ht], e⟩⟩
        · simp
      · obtain ⟨h1, h2⟩ := uponGo_fr ts us (σ.put t.v u)
        refine ⟨by simp only [List.length_cons]; omega, fun x hx => ?_⟩
        simp only [List.mem_cons] at hx
        rcases hx with rfl | hx
        · exact ⟨t, by simp, rfl⟩
        · obtain ⟨t', ht, e⟩ := h2 x hx
          exact ⟨t', by simp [ht], e⟩
theorem uponP_fr (σ : Env) (a b : Atm) : (uponP σ a b).2.1.length ≤ a.terms.length ∧ ∀ x ∈ (uponP σ a b).2.1, ∃ t ∈ a.terms, t.v = x := by
  unfold uponP
  split
  · exact uponGo_fr _ _ _
  · simp
theorem dels_snoc (σ : Env) (fr : List ByteArray) (p : Nat) (x : ByteArray) (h : fr[p]? = some x) : σ.dels (fr.take (p + 1)) = (σ.dels (fr.take p)).del x := by
  rw [List.take_add_one, h]
  simp [Env.dels]
end Go.Proofs.Ythjpcnceppmnmaa
