/-
  The machinery of XExt at the stronger relation.
-/
import Derived.Test.YtoahckibhmoikaaDoorGround
namespace Go.Proofs.YtoahckibhmoikaaDoor.D
open Go.RowKit

/-- 'Ext', and the count of draws does not fall -/
def Ext (w w' : World) : Prop := Go.Proofs.YtoahckibhmoikaaDoor.Ext w w' ∧ w.drawn ≤ w'.drawn
instance {w w' : World} : Coe (Ext w w') (Go.Proofs.YtoahckibhmoikaaDoor.Ext w w') := ⟨fun h => h.1⟩
theorem Ext.refl (w : World) : Ext w w := ⟨Go.Proofs.YtoahckibhmoikaaDoor.Ext.refl w, Nat.le_refl _⟩
theorem Ext.size {w w' : World} (h : Ext w w') : w.heap.size ≤ w'.heap.size := h.1.size
theorem Ext.trans {a b c : World} (h : Ext a b) (k : Ext b c) : Ext a c := ⟨h.1.trans k.1, Nat.le_trans h.2 k.2⟩
theorem Ext.drew (w : World) : Ext w w.drew := ⟨Go.Proofs.YtoahckibhmoikaaDoor.Ext.drew w, Nat.le_succ _⟩
theorem Ext.drew' {a w : World} (h : Ext a w) : Ext a w.drew := ⟨h.1.drew', Nat.le_succ_of_le h.2⟩
theorem Ext.alloc (w : World) (o : Obj) : Ext w (w.alloc o) := ⟨Go.Proofs.YtoahckibhmoikaaDoor.Ext.alloc w o, Nat.le_refl _⟩
theorem Ext.alloc' {a w : World} (h : Ext a w) (o : Obj) : Ext a (w.alloc o) := ⟨h.1.alloc' o, h.2⟩
theorem Ext.setCell {a w : World} (h : Ext a w) {p : Addr} (hp : a.heap.size ≤ p.block) (u : Value) : Ext a (w.setCell p u) := ⟨h.1.setCell hp u, h.2⟩
theorem Ext.cell {w w' : World} (h : Ext w w') {p : Addr} {v : Value} (hp : w.cell? p = some v) : w'.cell? p = some v := h.1.cell hp
theorem Ext.frozen {w w' : World} (h : Ext w w') {p : Addr} (hp : p.block < w.heap.size) : w'.frozen? p = w.frozen? p := h.1.frozen hp
theorem Ext.block {w w' : World} (h : Ext w w') {k : Nat} (hk : k < w.heap.size) : w'.heap[k]? = w.heap[k]? := h.1.block hk

inductive AV where
  | k (v : Value)
  | p (F : Value → World → Prop)
def AV.sat : AV → Value → World → Prop
  | .k v, u, _ => u = v
  | .p F, u, w => F u w
def AV.Stable (w0 : World) (x : AV) : Prop := ∀ u w w', Ext w0 w → Ext w w' → x.sat u w → x.sat u w'
theorem AV.stable_k (w0 : World) (v : Value) : (AV.k v).Stable w0 := fun _ _ _ _ _ h => h

def eUpon (P : Program) (w : World) (x : AV) : Result Next → Prop
  | .ok (.value v) w' => Ext w w' ∧ x.sat v w'
  | .ok .skip w' => Ext w w' ∧ x.sat undef w'
  | .ok (.enter f args) w' => Ext w w' ∧ Calls P f args w' fun e w'' => ∃ v, e = .returned v ∧ Ext w' w'' ∧ x.sat v w''
  | _ => False

section
variable {P : Program} {ops : Array Oper} {md : Region.Mode} {w0 : World} {n : Nat} {ds : List Deferred}

def EStep (P : Program) (ops : Array Oper) (w0 : World) (S : Tmp → AV) (o : Oper) (x : AV) : Prop :=
  x.Stable w0 ∧ ∀ (a : Act) (w : World), Ext w0 w → (∀ t ∈ o.looksAt ops, (S t).sat (a.tmps.getD t undef) w) →
    if Region.wanted o (yielded ops a.tmps) then eUpon P w x ((execOp a.eval o).run P w) else x.sat undef w

def sput (S : Tmp → AV) (d : Option Tmp) (x : AV) : Tmp → AV := fun t => if d = some t then x else S t
theorem sput_ne {S : Tmp → AV} {d : Option Tmp} {x : AV} {t : Tmp} (h : d ≠ some t) : sput S d x t = S t := by simp [sput, h]
theorem sput_comm (S : Tmp → AV) {d e : Option Tmp} (x y : AV) (h : ∀ t, d = some t → e ≠ some t) : sput (sput S d x) e y = sput (sput S e y) d x := by
  funext t
  unfold sput
  by_cases h1 : d = some t <;> by_cases h2 : e = some t <;> simp [h1, h2]
  exact absurd h2 (h t h1)

theorem EStep.put {S : Tmp → AV} {o : Oper} {x y : AV} {d : Option Tmp} (h : ∀ t, d = some t → t ∉ o.looksAt ops) (hs : EStep P ops w0 (sput S d y) o x) : EStep P ops w0 S o x :=
  ⟨hs.1, fun a w hw ht => hs.2 a w hw fun t hm => by rw [sput_ne (fun e => h t e hm)]; exact ht t hm⟩
theorem EStep.unput {S : Tmp → AV} {o : Oper} {x y : AV} {d : Option Tmp} (h : ∀ t, d = some t → t ∉ o.looksAt ops) (hs : EStep P ops w0 S o x) : EStep P ops w0 (sput S d y) o x :=
  ⟨hs.1, fun a w hw ht => hs.2 a w hw fun t hm => by have := ht t hm; rw [sput_ne (fun e => h t e hm)] at this; exact this⟩

def eOp (P : Program) (ops : Array Oper) (w0 : World) (i : Nat) (K : (Tmp → AV) → Prop) (S : Tmp → AV) : Prop :=
  match ops[i]? with
  | none => K S
  | some o => ∃ x, EStep P ops w0 S o x ∧ K (sput S o.dst x)
theorem eOp_mono {i : Nat} {S : Tmp → AV} {K K' : (Tmp → AV) → Prop} (h : ∀ S, K S → K' S) (hh : eOp P ops w0 i K S) : eOp P ops w0 i K' S := by
  unfold eOp at *
  split
  · exact h _ (by simpa [*] using hh)
  · rename_i o ho
    simp only [ho] at hh
    obtain ⟨x, h1, h2⟩ := hh
    exact ⟨x, h1, h _ h2⟩

def wpAnyE (P : Program) (md : Region.Mode) (ops : Array Oper) (w0 : World) (n : Nat) (L : Array Bool → (Tmp → AV) → Prop) : Nat → Array Bool → (Tmp → AV) → Prop
  | 0, listed, S => L listed S
  | f + 1, listed, S => Region.ready md ops listed ≠ [] ∧ ∀ i ∈ Region.ready md ops listed, i < n ∧ eOp P ops w0 i (wpAnyE P md ops w0 n L f (listed.setIfInBounds i true)) S

/-- the frame a is one of those that S speaks of -/
def Fits (S : Tmp → AV) (m : Nat) (ds : List Deferred) (a : Act) (w : World) : Prop :=
  a.tmps.size = m ∧ a.defers = ds ∧ ∀ t, t < m → (S t).sat (a.tmps.getD t undef) w
def dstsIn (ops : Array Oper) (m : Nat) : Bool := ops.all fun o => (o.dst.all (· < m)) && (o.looksAt ops).all (· < m)

theorem Fits.put {S : Tmp → AV} {m : Nat} {a : Act} {w w' : World} (h : Fits S m ds a w) (hS : ∀ t, (S t).Stable w0) (h0 : Ext w0 w) (hw : Ext w w') {d : Option Tmp} {v : Value} {x : AV} (hx : x.sat v w') :
    Fits (sput S d x) m ds (a.put d v) w' := by
  obtain ⟨h1, h2, h3⟩ := h
  cases d with
  | none => exact ⟨h1, h2, fun t ht => by rw [sput_ne (by simp)]; exact hS t _ _ _ h0 hw (h3 t ht)⟩
  | some d =>
    refine ⟨by simp [Act.put, h1], h2, fun t ht => ?_⟩
    by_cases he : d = t
    · subst he
      have : (a.tmps.setIfInBounds d v).getD d undef = v := by simp [h1, ht]
      simp only [sput, Act.put, this]
      simpa using hx
    · rw [sput_ne (by simpa using he)]
      have : (a.tmps.setIfInBounds d v).getD t undef = a.tmps.getD t undef := by
        simp [Array.getElem?_setIfInBounds_ne he]
      simp only [Act.put, this]
      exact hS t _ _ _ h0 hw (h3 t ht)

theorem wpAny_of_ext {m g : Nat} {L : Array Bool → (Tmp → AV) → Prop} {Q' : Exit → Act → World → Prop} (hd : dstsIn ops m = true)
    (hL : ∀ listed S, L listed S → ∀ a w, Ext w0 w → Fits S m ds a w → wpAny P md ops Q' g listed a w) :
    ∀ (f : Nat) (listed : Array Bool) (S : Tmp → AV), (∀ t, (S t).Stable w0) → wpAnyE P md ops w0 n L f listed S → ∀ a w, Ext w0 w → Fits S m ds a w → wpAny P md ops Q' (f + g) listed a w
  | 0, listed, S, _, h => fun a w hw ha => by rw [Nat.zero_add]; exact hL _ _ h a w hw ha
  | f + 1, listed, S, hS, h => fun a w hw ha => by
    rw [show f + 1 + g = (f + g) + 1 by omega]
    refine ⟨fun h0 => absurd h0 h.1, fun i hi => ?_⟩
    have h2 := (h.2 i hi).2
    unfold eOp at h2
    unfold wpOp
    cases ho : ops[i]? with
    | none => simp only [ho] at h2 ⊢; exact wpAny_of_ext hd hL f _ S hS h2 a w hw ha
    | some o =>
      simp only [ho] at h2 ⊢
      obtain ⟨x, ⟨hst, hx⟩, hK⟩ := h2
      have hin : (o.dst.all (· < m)) = true ∧ (o.looksAt ops).all (· < m) = true := by
        have := Array.all_eq_true_iff_forall_mem.1 hd o (Array.mem_of_getElem? ho)
        simpa using this
      have h3 := hx a w hw fun t ht => ha.2.2 t (by have := List.all_eq_true.1 hin.2 t ht; simpa using this)
      have hS' : ∀ t, (sput S o.dst x t).Stable w0 := fun t => by
        unfold sput
        split
        · exact hst
        · exact hS t
      have go : ∀ v w', Ext w w' → x.sat v w' → wpAny P md ops Q' (f + g) (listed.setIfInBounds i true) (a.put o.dst v) w' := fun v w' hw' hv =>
        wpAny_of_ext hd hL f _ _ hS' hK _ _ (hw.trans hw') (ha.put hS hw hw' hv)
      split
      · rename_i hwant
        simp only [hwant, if_true] at h3
        refine .inl ?_
        unfold Oper.wp
        generalize (execOp a.eval o).run P w = r at h3 ⊢
        cases r with
        | ok nx w' =>
          cases nx <;> simp only [eUpon] at h3 <;> simp only [Oper.upon]
          case value u => exact go _ _ h3.1 h3.2
          case skip => exact go _ _ h3.1 h3.2
          case enter fn args => exact h3.2.mono fun e w'' ⟨v, he, hw'', hv⟩ => by subst he; exact go _ _ (h3.1.trans hw'') hv
        | halt x w' => simp only [eUpon] at h3
      · rename_i hwant
        simp only [hwant, Bool.false_eq_true, if_false] at h3
        exact go _ _ (Ext.refl _) h3

theorem eOp_put {j : Nat} {oi oj : Oper} {x : AV} (hj : ops[j]? = some oj) (hap : oi.apart ops oj = true) {K : (Tmp → AV) → Prop} {S : Tmp → AV}
    (hy : EStep P ops w0 S oi x) (h : eOp P ops w0 j K (sput S oi.dst x)) : eOp P ops w0 j (fun S' => EStep P ops w0 S' oi x ∧ K (sput S' oi.dst x)) S := by
  obtain ⟨h1, h2, h3⟩ := Oper.apart_spec hap
  unfold eOp at *
  simp only [hj] at *
  obtain ⟨y, hy', hK⟩ := h
  exact ⟨y, hy'.put h1, hy.unput h3, by rw [← sput_comm S x y h2]; exact hK⟩

theorem wpAnyE_first {i : Nat} {oi : Oper} {x : AV} {L : Array Bool → (Tmp → AV) → Prop} (hi : ops[i]? = some oi) (hin : i < n)
    (hT : ∀ listed, HeadInv md ops n listed → listed.getD i true = false → ∀ t, n ≤ t → t ∉ Region.ready md ops listed)
    (hdone : ∀ listed S, L listed S → ∀ j ∈ Region.ready md ops listed, n ≤ j) :
    ∀ (f : Nat) (listed : Array Bool) (S : Tmp → AV), HeadInv md ops n listed →
      (∀ j oj, ops[j]? = some oj → j ≠ i → listed.getD j true = false → (∀ e ∈ oj.after, Region.binds md e = true → e.on ≠ i) → oi.apart ops oj = true) →
      i ∈ Region.ready md ops listed → EStep P ops w0 S oi x →
      wpAnyE P md ops w0 n L f (listed.setIfInBounds i true) (sput S oi.dst x) → wpAnyE P md ops w0 n L (f + 1) listed S := by
  have hself : ∀ {S : Tmp → AV} {K : (Tmp → AV) → Prop}, EStep P ops w0 S oi x → K (sput S oi.dst x) → eOp P ops w0 i K S := fun hy hK => by
    unfold eOp; simp only [hi]; exact ⟨x, hy, hK⟩
  intro f
  induction f with
  | zero =>
    intro listed S inv _ hr hy H
    have hun := (mem_ready.1 hr).1
    refine ⟨fun h => (by rw [h] at hr; cases hr), fun j hj => ?_⟩
    have hjn : j < n := by
      rcases Nat.lt_or_ge j n with h | h
      · exact h
      · exact absurd hj (hT listed inv hun j h)
    refine ⟨hjn, ?_⟩
    by_cases hji : j = i
    · subst hji; exact hself hy H
    · have := hdone _ _ H j (ready_mono hj hji)
      omega
  | succ f ih =>
    intro listed S inv hfree hr hy H
    have hun := (mem_ready.1 hr).1
    refine ⟨fun h => (by rw [h] at hr; cases hr), fun j hj => ?_⟩
    have hjn : j < n := by
      rcases Nat.lt_or_ge j n with h | h
      · exact h
      · exact absurd hj (hT listed inv hun j h)
    refine ⟨hjn, ?_⟩
    by_cases hji : j = i
    · subst hji; exact hself hy H
    · have h1 := (H.2 j (ready_mono hj hji)).2
      obtain ⟨hjun, oj, hoj, hall⟩ := mem_ready.1 hj
      have hnot : ∀ e ∈ oj.after, Region.binds md e = true → e.on ≠ i := fun e he hb heq => by
        have h1 := hall e he hb
        rw [heq, getD_both hun] at h1
        cases h1
      have h2 := eOp_put hoj (hfree j oj hoj hji hjun hnot) hy h1
      have hfree' : ∀ k ok, ops[k]? = some ok → k ≠ i → (listed.setIfInBounds j true).getD k true = false →
          (∀ e ∈ ok.after, Region.binds md e = true → e.on ≠ i) → oi.apart ops ok = true := fun k ok hk hki hun hno => by
        refine hfree k ok hk hki ?_ hno
        by_cases hjk : j = k
        · subst hjk; exact hjun
        · rw [getD_set_ne true hjk] at hun; exact hun
      refine eOp_mono (fun S' h3 => ih (listed.setIfInBounds j true) S' (inv.set hj hjn) hfree' (ready_mono hr (Ne.symm hji)) h3.1 ?_) h2
      rw [Array.setIfInBounds_comm _ _ hji]
      exact h3.2

/-- the walk in the text's order -/
def wpSem (P : Program) (ops : Array Oper) (w0 : World) (Q : (Tmp → AV) → Prop) : List Oper → (Tmp → AV) → Prop
  | [], S => Q S
  | o :: l, S => ∃ x, EStep P ops w0 S o x ∧ wpSem P ops w0 Q l (sput S o.dst x)

theorem wpAnyE_lex {g : Nat} {Lq : (Tmp → AV) → Prop} (hT : ∀ i, i < n → ∀ listed, HeadInv md ops n listed → listed.getD i true = false → ∀ t, n ≤ t → t ∉ Region.ready md ops listed) :
    ∀ (l : List Oper) (k : Nat) (listed : Array Bool) (S : Tmp → AV), (∀ j, j < l.length → l[j]? = ops[k + j]?) → k + l.length = n → HeadInv md ops n listed →
    Region.lexHead md ops g l.length k listed = true → wpSem P ops w0 Lq l S →
    wpAnyE P md ops w0 n (fun listed' S' => Region.seqB md ops g n listed' = true ∧ Lq S') l.length listed S
  | [], k, listed, S, _, hk, _, hB, h => by
    have : k = n := by simpa using hk
    subst this
    exact ⟨by simpa [Region.lexHead] using hB, h⟩
  | o :: l, k, listed, S, hl, hk, inv, hB, h => by
    have h0 : ops[k]? = some o := by simpa using (hl 0 (by simp)).symm
    simp only [List.length_cons, Region.lexHead, Bool.and_eq_true] at hB
    obtain ⟨⟨hr, hf⟩, hB'⟩ := hB
    have hkn : k < n := by simp only [List.length_cons] at hk; omega
    have hr' : k ∈ Region.ready md ops listed := by simpa using hr
    obtain ⟨x, hy, hK⟩ := h
    exact wpAnyE_first h0 hkn (hT k hkn) (fun listed' S' hL => seqB_ready hL.1) l.length listed S inv (Region.free_spec h0 hf) hr' hy
      (wpAnyE_lex hT l (k + 1) _ _ (fun j hj => by have := hl (j + 1) (by simp; omega); simpa [Nat.add_assoc, Nat.add_comm 1 j] using this) (by simp only [List.length_cons] at hk; omega) (inv.set hr' hkn) hB' hK)

def extB (ops : Array Oper) (n : Nat) : Bool :=
  decide (n ≤ ops.size) && (decide (n = ops.size) || Region.sinkB .any ops n && Region.chainB .any ops n) && Region.lexHead .any ops (ops.size - n) n 0 (Array.replicate ops.size false)

theorem wp_region_sem {id : Nat} {Q : Exit → Act → World → Prop} {a : Act} {w : World} {l : List Oper} (n : Nat) (S0 : Tmp → AV) (m : Nat) (hm : P.follows .mixedOrders = true) (hB : extB l.toArray n = true) (hd : dstsIn l.toArray m = true)
    (hS0 : ∀ t, (S0 t).Stable w) (hfit : Fits S0 m ds a w)
    (h : wpSem P l.toArray w (fun S => ∀ a' w', Ext w w' → Fits S m ds a' w' → wpList P l.toArray Q (l.drop n) a' w') (l.take n) S0) : (Code.region id l.toArray true).wp P Q a w := by
  simp only [extB, Bool.and_eq_true, decide_eq_true_eq] at hB
  obtain ⟨⟨hn, hsc⟩, hlex⟩ := hB
  have hn' : n ≤ l.length := by simpa using hn
  have htl : (l.take n).length = n := by simp; omega
  have hdl : (l.drop n).length = l.toArray.size - n := by simp
  have inv0 : HeadInv .any l.toArray n (Array.replicate l.toArray.size false) :=
    ⟨by simp, fun j oj _ hl => (by rw [getD_replicate_false] at hl; cases hl), fun t _ ht => getD_in (by simpa using ht) (getD_replicate_false _ _)⟩
  have hT : ∀ i, i < n → ∀ listed, HeadInv .any l.toArray n listed → listed.getD i true = false → ∀ t, n ≤ t → t ∉ Region.ready .any l.toArray listed := by
    intro i hi listed inv hun t ht hr
    simp only [Bool.or_eq_true, decide_eq_true_eq, Bool.and_eq_true] at hsc
    rcases hsc with hsc | hsc
    · obtain ⟨_, ot, hot, _⟩ := mem_ready.1 hr
      have htlt := (Array.getElem?_eq_some_iff.1 hot).1
      omega
    · by_cases hlt : n < l.toArray.size
      · exact tail_waits hsc.1 hsc.2 hlt inv _ i rfl hi hun t ht hr
      · obtain ⟨_, ot, hot, _⟩ := mem_ready.1 hr
        have htlt := (Array.getElem?_eq_some_iff.1 hot).1
        omega
  have H := wpAnyE_lex (md := .any) (g := l.toArray.size - n) hT (l.take n) 0 _ S0 (fun j hj => by
    have hj' : j < n := by rw [htl] at hj; exact hj
    simp [hj']) (by simpa using htl) inv0 (by rw [htl]; exact hlex) h
  refine wp_region_any hm ?_
  have hw1 : Ext w { w with drawn := w.drawn + 1 } := Ext.drew w
  have := wpAny_of_ext (w0 := w) (ds := ds) (Q' := Q) (g := l.toArray.size - n) hd (fun listed S hL a' w' hw' hf => by
    have := wpAny_of_seq (md := .any) (Q' := Q) (l.drop n) n listed a' w' (fun j => by simp [List.getElem?_drop]) (by rw [hdl]; exact hL.1) (hL.2 a' w' hw' hf)
    rwa [hdl] at this) _ _ S0 hS0 H a _ hw1 ⟨hfit.1, hfit.2.1, fun t ht => hS0 t _ _ _ (Ext.refl _) hw1 (hfit.2.2 t ht)⟩
  rw [htl, show n + (l.toArray.size - n) = l.toArray.size by omega] at this
  exact this

/-! the layer in which the walk goes: a frame written out, and a list of the slots of which only a property is known -/
abbrev Facts := List (Tmp × (Value → World → Prop))
def Facts.get (F : Facts) (t : Tmp) : Option (Value → World → Prop) := (F.find? (·.1 == t)).map (·.2)
def semOf (a : Act) (F : Facts) : Tmp → AV := fun t => match F.get t with | some G => .p G | none => .k (a.tmps.getD t undef)

def kUpon (P : Program) (w : World) (v : Value) : Result Next → Prop
  | .ok (.value u) w' => w' = w ∧ u = v
  | .ok .skip w' => w' = w ∧ v = undef
  | .ok (.enter f args) w' => w' = w ∧ Calls P f args w fun e w'' => e = .returned v ∧ Ext w w''
  | _ => False

attribute [go_sem] kUpon eUpon AV.sat

def wpE (P : Program) (ops : Array Oper) (w0 : World) (Q : Act → Facts → Prop) : List Oper → Act → Facts → Prop
  | [], a, F => Q a F
  | o :: l, a, F => ∃ x F' a', EStep P ops w0 (semOf a F) o x ∧ (∀ t, sput (semOf a F) o.dst x t = semOf a' F' t) ∧ a'.tmps.size = a.tmps.size ∧ a'.defers = a.defers ∧ wpE P ops w0 Q l a' F'

theorem wpE_nil {Q : Act → Facts → Prop} {a : Act} {F : Facts} (h : Q a F) : wpE P ops w0 Q [] a F := h

theorem wpSem_of_wpE {Q : Act → Facts → Prop} {Q' : (Tmp → AV) → Prop} {m : Nat} (hQ : ∀ a F, a.tmps.size = m → a.defers = ds → Q a F → Q' (semOf a F)) : ∀ (l : List Oper) (a : Act) (F : Facts), a.tmps.size = m → a.defers = ds → wpE P ops w0 Q l a F → wpSem P ops w0 Q' l (semOf a F)
  | [], a, F, h1, h2, h => hQ a F h1 h2 h
  | o :: l, a, F, h1, h2, ⟨x, F', a', hs, he, h3, h4, hr⟩ => ⟨x, hs, by rw [funext he]; exact wpSem_of_wpE hQ l a' F' (h3.trans h1) (h4.trans h2) hr⟩

theorem yielded_congr {t t' : Array Value} {g : Nat} (h : ∀ d, (ops[g]?).bind (·.dst) = some d → t.getD d undef = t'.getD d undef) : yielded ops t g = yielded ops t' g := by
  unfold yielded
  cases hd : (ops[g]?).bind (·.dst) with
  | none => rfl
  | some d =>
    have := h d hd
    simp only [Option.bind_some]
    rw [Array.getD_eq_getD_getElem?, Array.getD_eq_getD_getElem?] at this
    cases h1 : t[d]? <;> cases h2 : t'[d]? <;> simp [h1, h2] at this ⊢
    · subst this; simp [undef]
    · subst this; simp [undef]
    · subst this; rfl
theorem wanted_congr {a a' : Act} {o : Oper} (h : ∀ t ∈ o.looksAt ops, a.tmps.getD t undef = a'.tmps.getD t undef) : Region.wanted o (yielded ops a.tmps) = Region.wanted o (yielded ops a'.tmps) := by
  unfold Region.wanted
  cases hg : o.guard with
  | none => rfl
  | some gw =>
    obtain ⟨g, want⟩ := gw
    simp only []
    rw [yielded_congr (t' := a'.tmps) fun d hd => h d (by simp [Oper.looksAt, hg, hd])]
theorem execOp_looks {a a' : Act} {o : Oper} (hs : ∀ cs b, o.op ≠ .select cs b) (h : ∀ t ∈ o.looksAt ops, a.tmps.getD t undef = a'.tmps.getD t undef) : execOp a.eval o = execOp a'.eval o :=
  execOp_congr o hs fun x hx => by
    cases x with
    | tmp t => exact h t (by unfold Oper.looksAt; exact List.mem_append_left _ (List.mem_filterMap.2 ⟨.tmp t, by simpa using hx, rfl⟩))
    | _ => rfl

def noSel (o : Oper) : Bool := match o.op with | .select .. => false | _ => true
theorem noSel_spec {o : Oper} (h : noSel o = true) (cs : Array SelectCase) (b : Bool) : o.op ≠ .select cs b := by
  intro e; simp [noSel, e] at h

theorem semOf_none {a : Act} {F : Facts} {t : Tmp} (h : F.get t = none) : semOf a F t = .k (a.tmps.getD t undef) := by simp [semOf, h]
theorem semOf_some {a : Act} {F : Facts} {t : Tmp} {G : Value → World → Prop} (h : F.get t = some G) : semOf a F t = .p G := by simp [semOf, h]
theorem Facts.get_cons_self {F : Facts} {t : Tmp} {G : Value → World → Prop} : Facts.get ((t, G) :: F) t = some G := by simp [Facts.get]
theorem Facts.get_cons_ne {F : Facts} {t d : Tmp} {G : Value → World → Prop} (h : d ≠ t) : Facts.get ((d, G) :: F) t = F.get t := by simp [Facts.get, h]

/-- what the operation looks at is written out in the frame -/
def plainAt (ops : Array Oper) (o : Oper) (F : Facts) : Bool := noSel o && (o.looksAt ops).all fun t => F.all (·.1 != t)
theorem get_none_of_all {F : Facts} {t : Tmp} (h : F.all (·.1 != t) = true) : F.get t = none := by
  simp only [Facts.get, Option.map_eq_none_iff, List.find?_eq_none]
  intro x hx
  have := List.all_eq_true.1 h x hx
  simpa using this
theorem plainAt_spec {o : Oper} {F : Facts} (h : plainAt ops o F = true) : (∀ cs b, o.op ≠ .select cs b) ∧ ∀ t ∈ o.looksAt ops, F.get t = none := by
  simp only [plainAt, Bool.and_eq_true] at h
  exact ⟨fun cs b => noSel_spec h.1 cs b, fun t ht => get_none_of_all (by have := List.all_eq_true.1 h.2 t ht; simpa using this)⟩

theorem sput_known {a : Act} {F : Facts} {d : Option Tmp} {v : Value} (hd : d.all (fun t => F.all (·.1 != t)) = true) (hz : d.all (· < a.tmps.size) = true) (t : Tmp) : sput (semOf a F) d (.k v) t = semOf (a.put d v) F t := by
  cases d with
  | none => exact sput_ne (by simp)
  | some d =>
    by_cases h : d = t
    · subst h
      have h0 : F.get d = none := get_none_of_all (by simpa using hd)
      have hz' : d < a.tmps.size := by simpa using hz
      have e : ((a.put (some d) v).tmps.getD d undef) = v := by simp [Act.put, hz']
      rw [semOf_none h0, e]
      simp [sput]
    · rw [sput_ne (by simpa using h)]
      unfold semOf
      cases F.get t with
      | some G => rfl
      | none =>
        have e : ((a.put (some d) v).tmps.getD t undef) = a.tmps.getD t undef := by simp [Act.put, Array.getElem?_setIfInBounds_ne h]
        simp only [e]

/-- AN OPERATION WHOSE VALUE IS KNOWN; what it looks at is written out -/
theorem wpE_k {Q : Act → Facts → Prop} {o : Oper} {l : List Oper} {a : Act} {F : Facts} (hp : plainAt ops o F = true) (hd : o.dst.all (fun t => decide (t < a.tmps.size) && F.all (·.1 != t)) = true)
    (hv : ∃ v : Value, (∀ w, Ext w0 w → if Region.wanted o (yielded ops a.tmps) then kUpon P w v ((execOp a.eval o).run P w) else v = undef) ∧ ∀ K : Act → Facts → Prop, (∀ a F, wpE P ops w0 Q l a F → K a F) → K (a.put o.dst v) F) : wpE P ops w0 Q (o :: l) a F := by
  obtain ⟨v, h, hK⟩ := hv
  have hr := hK _ fun _ _ h => h
  obtain ⟨hs, hl⟩ := plainAt_spec hp
  have hd1 : o.dst.all (fun t => F.all (·.1 != t)) = true := by
    cases ho : o.dst with
    | none => rfl
    | some d => rw [ho] at hd; simp only [Option.all_some, Bool.and_eq_true] at hd ⊢; exact hd.2
  have hd2 : o.dst.all (· < a.tmps.size) = true := by
    cases ho : o.dst with
    | none => rfl
    | some d => rw [ho] at hd; simp only [Option.all_some, Bool.and_eq_true] at hd ⊢; exact hd.1
  refine ⟨.k v, F, a.put o.dst v, ⟨AV.stable_k _ _, fun a' w hw ht => ?_⟩, sput_known hd1 hd2, ?_, ?_, hr⟩
  · have hag : ∀ t ∈ o.looksAt ops, a'.tmps.getD t undef = a.tmps.getD t undef := fun t hm => by
      have := ht t hm
      rw [semOf_none (hl t hm)] at this
      exact this
    rw [wanted_congr hag, execOp_looks hs hag]
    have h1 := h w hw
    split
    · rename_i hwant
      simp only [hwant, if_true] at h1
      generalize (execOp a.eval o).run P w = r at h1 ⊢
      cases r with
      | ok nx w' =>
        cases nx <;> simp only [kUpon] at h1 <;> simp only [eUpon]
        case value u => obtain ⟨rfl, rfl⟩ := h1; exact ⟨Ext.refl _, rfl⟩
        case skip => obtain ⟨rfl, rfl⟩ := h1; exact ⟨Ext.refl _, rfl⟩
        case enter f args => obtain ⟨rfl, hc⟩ := h1; exact ⟨Ext.refl _, hc.mono fun e w'' ⟨he, hw''⟩ => ⟨v, he, hw'', rfl⟩⟩
      | halt x w' => simp only [kUpon] at h1
    · rename_i hwant
      simp only [hwant, Bool.false_eq_true, if_false] at h1
      exact h1.symm
  · cases ho : o.dst <;> simp [Act.put]
  · cases ho : o.dst <;> rfl

/-- the slots 'ts', of which only a property is known, are looked at by the operation -/
def LookQ (F : Facts) (w : World) : List Tmp → (Act → Prop) → Act → Prop
  | [], k, a => k a
  | t :: ts, k, a => ∀ u, (∀ G, F.get t = some G → G u w) → LookQ F w ts k (a.put (some t) u)
theorem LookQ_elim {F : Facts} {w : World} {a' : Act} : ∀ (ts : List Tmp) {k : Act → Prop} {a : Act}, LookQ F w ts k a → (∀ t ∈ ts, t < a.tmps.size) → (∀ t ∈ ts, ∀ G, F.get t = some G → G (a'.tmps.getD t undef) w) →
    ∃ b : Act, k b ∧ b.tmps.size = a.tmps.size ∧ ∀ t, b.tmps.getD t undef = if t ∈ ts then a'.tmps.getD t undef else a.tmps.getD t undef
  | [], k, a, h, _, _ => ⟨a, h, rfl, fun t => by simp⟩
  | t :: ts, k, a, h, hz, hG => by
    obtain ⟨b, hk, hs, hb⟩ := LookQ_elim ts (h _ (hG t (by simp))) (fun s hs => by simpa [Act.put] using hz s (by simp [hs])) (fun s hs => hG s (by simp [hs]))
    refine ⟨b, hk, by simpa [Act.put] using hs, fun s => ?_⟩
    rw [hb s]
    by_cases h1 : s ∈ ts
    · simp [h1]
    · by_cases h2 : s = t
      · subst h2
        have hz' : s < a.tmps.size := hz s (by simp)
        simp [h1, Act.put, hz']
      · simp [h1, h2, Act.put, Array.getElem?_setIfInBounds_ne (Ne.symm h2)]
def looksIn (ops : Array Oper) (o : Oper) (F : Facts) (ts : List Tmp) (m : Nat) : Bool := noSel o && ts.all (fun t => decide (t < m) && (o.looksAt ops).contains t) && (o.looksAt ops).all fun t => ts.contains t || F.all (·.1 != t)

/-- AN OPERATION OF WHOSE VALUE A PROPERTY IS KNOWN; 'ts': the slots that it looks at and of which only a property is known -/
theorem wpE_p {Q : Act → Facts → Prop} {o : Oper} {l : List Oper} {a : Act} {F : Facts} {d : Tmp} (ts : List Tmp) (G : Value → World → Prop) (hG : ∀ u w w', Ext w0 w → Ext w w' → G u w → G u w') (hdst : o.dst = some d)
    (hp : looksIn ops o F ts a.tmps.size = true)
    (h : ∀ w, Ext w0 w → LookQ F w ts (fun a => if Region.wanted o (yielded ops a.tmps) then eUpon P w (.p G) ((execOp a.eval o).run P w) else G undef w) a) (hr : wpE P ops w0 Q l a ((d, G) :: F)) : wpE P ops w0 Q (o :: l) a F := by
  simp only [looksIn, Bool.and_eq_true] at hp
  obtain ⟨⟨hs, hz⟩, hl⟩ := hp
  have hz' : ∀ t ∈ ts, t < a.tmps.size := fun t ht => by have := List.all_eq_true.1 hz t ht; simp at this; exact this.1
  have hin : ∀ t ∈ ts, t ∈ o.looksAt ops := fun t ht => by have := List.all_eq_true.1 hz t ht; simp at this; exact this.2
  refine ⟨.p G, (d, G) :: F, a, ⟨fun u w w' h1 h2 h3 => hG u w w' h1 h2 h3, fun a' w hw ht => ?_⟩, fun t => ?_, rfl, rfl, hr⟩
  · have hl' : ∀ t ∈ o.looksAt ops, t ∈ ts ∨ F.get t = none := fun t hm => by
      have := List.all_eq_true.1 hl t hm
      simp only [Bool.or_eq_true] at this
      rcases this with h1 | h1
      · exact .inl (by simpa using h1)
      · exact .inr (get_none_of_all h1)
    have hall : ∀ t ∈ ts, ∀ G', F.get t = some G' → G' (a'.tmps.getD t undef) w := fun t hts G' hG' => by
      have h1 := ht t (hin t hts)
      rw [semOf_some hG'] at h1
      exact h1
    obtain ⟨b, hb, _, hbt⟩ := LookQ_elim (a' := a') ts (h w hw) hz' hall
    have hag : ∀ t ∈ o.looksAt ops, a'.tmps.getD t undef = b.tmps.getD t undef := fun t hm => by
      rw [hbt t]
      by_cases h1 : t ∈ ts
      · simp [h1]
      · have h2 := (hl' t hm).resolve_left h1
        have := ht t hm
        rw [semOf_none h2] at this
        rw [if_neg h1]
        exact this
    rw [wanted_congr hag, execOp_looks (fun cs b => noSel_spec hs cs b) hag]
    exact hb
  · unfold sput
    rw [hdst]
    by_cases h1 : d = t
    · subst h1; simp [semOf_some Facts.get_cons_self]
    · simp only [Option.some.injEq, h1, if_false]
      unfold semOf
      rw [Facts.get_cons_ne h1]

/-- AN OPERATION WHOSE VALUE IS KNOWN, though it looks at slots of which only a property is known -/
theorem wpE_kp {Q : Act → Facts → Prop} {o : Oper} {l : List Oper} {a : Act} {F : Facts} (ts : List Tmp) (v : Value) (hp : looksIn ops o F ts a.tmps.size = true) (hd : o.dst.all (fun t => decide (t < a.tmps.size) && F.all (·.1 != t)) = true)
    (h : ∀ w, Ext w0 w → LookQ F w ts (fun a => if Region.wanted o (yielded ops a.tmps) then eUpon P w (.k v) ((execOp a.eval o).run P w) else undef = v) a) (hK : ∀ K : Act → Facts → Prop, (∀ a F, wpE P ops w0 Q l a F → K a F) → K (a.put o.dst v) F) : wpE P ops w0 Q (o :: l) a F := by
  have hr := hK _ fun _ _ h => h
  simp only [looksIn, Bool.and_eq_true] at hp
  obtain ⟨⟨hs, hz⟩, hl⟩ := hp
  have hz' : ∀ t ∈ ts, t < a.tmps.size := fun t ht => by have := List.all_eq_true.1 hz t ht; simp at this; exact this.1
  have hin : ∀ t ∈ ts, t ∈ o.looksAt ops := fun t ht => by have := List.all_eq_true.1 hz t ht; simp at this; exact this.2
  have hd1 : o.dst.all (fun t => F.all (·.1 != t)) = true := by
    cases ho : o.dst with
    | none => rfl
    | some d => rw [ho] at hd; simp only [Option.all_some, Bool.and_eq_true] at hd ⊢; exact hd.2
  have hd2 : o.dst.all (· < a.tmps.size) = true := by
    cases ho : o.dst with
    | none => rfl
    | some d => rw [ho] at hd; simp only [Option.all_some, Bool.and_eq_true] at hd ⊢; exact hd.1
  refine ⟨.k v, F, a.put o.dst v, ⟨AV.stable_k _ _, fun a' w hw ht => ?_⟩, sput_known hd1 hd2, by cases ho : o.dst <;> simp [Act.put], by cases ho : o.dst <;> rfl, hr⟩
  have hl' : ∀ t ∈ o.looksAt ops, t ∈ ts ∨ F.get t = none := fun t hm => by
    have := List.all_eq_true.1 hl t hm
    simp only [Bool.or_eq_true] at this
    rcases this with h1 | h1
    · exact .inl (by simpa using h1)
    · exact .inr (get_none_of_all h1)
  have hall : ∀ t ∈ ts, ∀ G', F.get t = some G' → G' (a'.tmps.getD t undef) w := fun t hts G' hG' => by
    have h1 := ht t (hin t hts)
    rw [semOf_some hG'] at h1
    exact h1
  obtain ⟨b, hb, _, hbt⟩ := LookQ_elim (a' := a') ts (h w hw) hz' hall
  have hag : ∀ t ∈ o.looksAt ops, a'.tmps.getD t undef = b.tmps.getD t undef := fun t hm => by
    rw [hbt t]
    by_cases h1 : t ∈ ts
    · simp [h1]
    · have h2 := (hl' t hm).resolve_left h1
      have := ht t hm
      rw [semOf_none h2] at this
      rw [if_neg h1]
      exact this
  rw [wanted_congr hag, execOp_looks (fun cs b => noSel_spec hs cs b) hag]
  exact hb

/-- behind the region: the slots of which only a property is known -/
def EndQ (w : World) : Facts → (Act → Prop) → Act → Prop
  | [], k, a => k a
  | (t, G) :: F, k, a => ∀ u, G u w → EndQ w F k (a.put (some t) u)
def distinctB : Facts → Bool
  | [] => true
  | (t, _) :: F => F.all (·.1 != t) && distinctB F
theorem EndQ_elim {w : World} {a' : Act} : ∀ (F : Facts) {k : Act → Prop} {a : Act}, distinctB F = true → EndQ w F k a → a'.tmps.size = a.tmps.size → a'.defers = a.defers → (F.all fun x => x.1 < a.tmps.size) = true →
    (∀ t G, F.get t = some G → G (a'.tmps.getD t undef) w) → (∀ t, F.get t = none → a'.tmps.getD t undef = a.tmps.getD t undef) → k a'
  | [], k, a, _, h, hs, hd, _, _, hn => by
    have e : a' = a := by
      obtain ⟨t', d'⟩ := a'
      obtain ⟨t, d⟩ := a
      simp only at hs hd hn
      subst hd
      have : t' = t := by
        apply Array.ext hs
        intro i h1 h2
        have := hn i rfl
        simpa [h1, h2] using this
      rw [this]
    rw [e]; exact h
  | (t, G) :: F', k, a, hB, h, hs, hd, hz, hp, hn => by
    let F : Facts := F'
    simp only [distinctB, Bool.and_eq_true] at hB
    simp only [List.all_cons, Bool.and_eq_true, decide_eq_true_eq] at hz
    have hFt : Facts.get F t = none := get_none_of_all hB.1
    refine EndQ_elim F hB.2 (h _ (hp t G Facts.get_cons_self)) (by simpa [Act.put] using hs) hd (by simpa [Act.put] using hz.2) (fun s G' hs' => ?_) (fun s hs' => ?_)
    · have hne : t ≠ s := fun e => by subst e; rw [hFt] at hs'; cases hs'
      exact hp s G' (by rw [Facts.get_cons_ne hne]; exact hs')
    · by_cases hne : t = s
      · subst hne
        simp [Act.put, hz.1]
      · rw [hn s (by rw [Facts.get_cons_ne hne]; exact hs')]
        simp [Act.put, Array.getElem?_setIfInBounds_ne hne]

/-- **A REGION THAT DRAWS ITS ORDER**, its first n operations walked in the text's order, the rest (which waits for them) as ever. -/
theorem wp_region_ext {id : Nat} {Q : Exit → Act → World → Prop} {a : Act} {w : World} {l : List Oper} (n : Nat) (hm : P.follows .mixedOrders = true) (hB : extB l.toArray n = true) (hd : dstsIn l.toArray a.tmps.size = true)
    (h : wpE P l.toArray w (fun a1 F => distinctB F = true ∧ (F.all fun x => x.1 < a.tmps.size) = true ∧ ∀ w', Ext w w' → EndQ w' F (fun a' => wpList P l.toArray Q (l.drop n) a' w') a1) (l.take n) a []) : (Code.region id l.toArray true).wp P Q a w := by
  refine wp_region_sem (ds := a.defers) n (semOf a []) a.tmps.size hm hB hd (fun t => ?_) ⟨rfl, rfl, fun t _ => ?_⟩ (wpSem_of_wpE (ds := a.defers) (m := a.tmps.size) (fun a1 F hs1 hd1 hq a' w' hw' hf => ?_) _ a [] rfl rfl h)
  · rw [semOf_none (by rfl)]; exact AV.stable_k _ _
  · rw [semOf_none (by rfl)]; rfl
  · obtain ⟨hB1, hz, hq⟩ := hq
    refine EndQ_elim (a' := a') F hB1 (hq w' hw') (hf.1.trans hs1.symm) (hf.2.1.trans hd1.symm) (by rw [hs1]; exact hz) (fun t G hG => ?_) (fun t hn => ?_)
    · have hlt : t < a.tmps.size := by
        have := hz
        simp only [Facts.get, Option.map_eq_some_iff] at hG
        obtain ⟨x, hx, _⟩ := hG
        have h1 := List.find?_some hx
        have h2 := List.all_eq_true.1 hz x (List.mem_of_find?_eq_some hx)
        simp at h1 h2
        rw [← h1]; exact h2
      have := hf.2.2 t hlt
      rw [semOf_some hG] at this
      exact this
    · by_cases hlt : t < a.tmps.size
      · have := hf.2.2 t hlt
        rw [semOf_none hn] at this
        exact this
      · have h1 : a'.tmps.size ≤ t := by rw [hf.1]; exact Nat.le_of_not_lt hlt
        have h2 : a1.tmps.size ≤ t := by rw [hs1]; exact Nat.le_of_not_lt hlt
        simp [h1, h2]
end
end Go.Proofs.YtoahckibhmoikaaDoor.D
