/-
  Regions that draw their order: an address of a field may be reckoned whenever; the head only reads or makes new memory; the tail waits for the head.
-/
import Derived.Test.YthjpcnceppmnmaaExt
import Derived.OrdersHeld
namespace Go.Proofs.Ythjpcnceppmnmaa
open Go.RowKit

structure HeadInv2 (md : Region.Mode) (ops : Array Oper) (n : Nat) (L0 listed : Array Bool) : Prop where
  size : listed.size = ops.size
  closed : ∀ j oj, ops[j]? = some oj → listed.getD j false = true → ∀ e ∈ oj.after, Region.binds md e = true → listed.getD e.on false = true
  tail : ∀ t, n ≤ t → t < ops.size → listed.getD t true = L0.getD t true

section
variable {P : Program} {ops : Array Oper} {md : Region.Mode} {w0 : World} {n : Nat} {ds : List Deferred} {L0 : Array Bool}

theorem HeadInv2.set {i : Nat} {listed : Array Bool} (inv : HeadInv2 md ops n L0 listed) (hi : i ∈ Region.ready md ops listed) (hin : i < n) : HeadInv2 md ops n L0 (listed.setIfInBounds i true) := by
  obtain ⟨_, oi, hoi, hall⟩ := mem_ready.1 hi
  refine ⟨by simp [inv.size], fun j oj hj hl e he hb => ?_, fun t ht ht' => by rw [getD_set_ne true (by omega)]; exact inv.tail t ht ht'⟩
  by_cases hij : i = j
  · subst hij
    have : oj = oi := Option.some.inj (hj.symm.trans hoi)
    subst this
    exact getD_set_true (hall e he hb)
  · rw [getD_set_ne false hij] at hl
    exact getD_set_true (inv.closed j oj hj hl e he hb)

/-- behind the first of the tail each other one of the tail waits for it, or has been taken already -/
def chain2B (md : Region.Mode) (ops : Array Oper) (n : Nat) (L0 : Array Bool) : Bool :=
  (List.range ops.size).all fun t => decide (t ≤ n) || L0.getD t true || Region.waitsFor md ops t n

theorem tail_waits2 {listed : Array Bool} (hs : Region.sinkB md ops n = true) (hc : chain2B md ops n L0 = true) (hn0 : L0.getD n true = false) (hn : n < ops.size) (inv : HeadInv2 md ops n L0 listed) :
    ∀ (d i : Nat), n - i = d → i < n → listed.getD i true = false → ∀ t, n ≤ t → t ∉ Region.ready md ops listed := by
  intro d
  induction d using Nat.strongRecOn with
  | _ d ih =>
    intro i hd hi hun t ht hr
    obtain ⟨hrun, ot, hot, hall⟩ := mem_ready.1 hr
    have htlt : t < ops.size := (Array.getElem?_eq_some_iff.1 hot).1
    by_cases htn : t = n
    · subst htn
      have h1 := List.all_eq_true.1 hs i (List.mem_range.2 hi)
      obtain ⟨j, hj, hj2⟩ := List.any_eq_true.1 h1
      simp only [Bool.and_eq_true, decide_eq_true_eq] at hj2
      obtain ⟨oj, hoj, e, he, hb, hon⟩ := Region.waitsFor_spec hj2.2
      have hjle : j ≤ t := by have := List.mem_range.1 hj; omega
      by_cases hjt : j = t
      · subst hjt
        have : oj = ot := Option.some.inj (hoj.symm.trans hot)
        subst this
        have h2 := hall e he hb
        rw [hon, getD_both hun] at h2
        cases h2
      · cases hl : listed.getD j false with
        | true =>
          have h2 := inv.closed j oj hoj hl e he hb
          rw [hon, getD_both hun] at h2
          cases h2
        | false =>
          have hjs : j < listed.size := by rw [inv.size]; omega
          exact ih (t - j) (by omega) j rfl (by omega) (getD_in hjs hl) t (Nat.le_refl _) hr
    · have h1 := List.all_eq_true.1 hc t (List.mem_range.2 htlt)
      simp only [Bool.or_eq_true, decide_eq_true_eq] at h1
      rcases h1 with (h1 | h1) | h1
      · omega
      · rw [inv.tail t ht htlt, h1] at hrun
        cases hrun
      · obtain ⟨o', ho', e, he, hb, hon⟩ := Region.waitsFor_spec h1
        have : o' = ot := Option.some.inj (ho'.symm.trans hot)
        subst this
        have h2 := hall e he hb
        have h3 := inv.tail n (Nat.le_refl _) hn
        rw [hn0] at h3
        rw [hon, getD_both h3] at h2
        cases h2

theorem wpAnyE_first2 {i : Nat} {oi : Oper} {x : AV} {L : Array Bool → (Tmp → AV) → Prop} (hi : ops[i]? = some oi) (hin : i < n)
    (hT : ∀ listed, HeadInv2 md ops n L0 listed → listed.getD i true = false → ∀ t, n ≤ t → t ∉ Region.ready md ops listed)
    (hdone : ∀ listed S, L listed S → ∀ j ∈ Region.ready md ops listed, n ≤ j) :
    ∀ (f : Nat) (listed : Array Bool) (S : Tmp → AV), HeadInv2 md ops n L0 listed →
      (∀ j oj, ops[j]? = some oj → j ≠ i → listed.getD j true = false → (∀ e ∈ oj.after, Region.binds md e = true → e.on ≠ i) → oi.apart ops oj = true) →
      i ∈ Region.ready md ops listed → EStep P ops w0 S oi x →
      wpAnyE P md ops w0 n L f (listed.setIfInBounds i true) (sput S oi.dst x) → wpAnyE P md ops w0 n L (f + 1) listed S := by
  have hself : ∀ {S : Tmp → AV} {K : (Tmp → AV) → Prop}, EStep P ops w0 S oi x → K (sput S oi.dst x) → eOp P ops w0 i K S := fun hy hK => by
    unfold eOp; simp only [hi]; exact ⟨x, hy, hK⟩
  intro f
  induction f with
  | zero =>
    intro listed S inv _ hr hy H
    have hun := (mem_ready.1 hr).1
    refine ⟨fun h => (by rw [h] at hr; cases hr), fun j hj => ?_⟩
    have hjn : j < n := by
      rcases Nat.lt_or_ge j n with h | h
      · exact h
      · exact absurd hj (hT listed inv hun j h)
    refine ⟨hjn, ?_⟩
    by_cases hji : j = i
    · subst hji; exact hself hy H
    · have := hdone _ _ H j (ready_mono hj hji)
      omega
  | succ f ih =>
    intro listed S inv hfree hr hy H
    have hun := (mem_ready.1 hr).1
    refine ⟨fun h => (by rw [h] at hr; cases hr), fun j hj => ?_⟩
    have hjn : j < n := by
      rcases Nat.lt_or_ge j n with h | h
      · exact h
      · exact absurd hj (hT listed inv hun j h)
    refine ⟨hjn, ?_⟩
    by_cases hji : j = i
    · subst hji; exact hself hy H
    · have h1 := (H.2 j (ready_mono hj hji)).2
      obtain ⟨hjun, oj, hoj, hall⟩ := mem_ready.1 hj
      have hnot : ∀ e ∈ oj.after, Region.binds md e = true → e.on ≠ i := fun e he hb heq => by
        have h1 := hall e he hb
        rw [heq, getD_both hun] at h1
        cases h1
      have h2 := eOp_put hoj (hfree j oj hoj hji hjun hnot) hy h1
      have hfree' : ∀ k ok, ops[k]? = some ok → k ≠ i → (listed.setIfInBounds j true).getD k true = false →
          (∀ e ∈ ok.after, Region.binds md e = true → e.on ≠ i) → oi.apart ops ok = true := fun k ok hk hki hun hno => by
        refine hfree k ok hk hki ?_ hno
        by_cases hjk : j = k
        · subst hjk; exact hjun
        · rw [getD_set_ne true hjk] at hun; exact hun
      refine eOp_mono (fun S' h3 => ih (listed.setIfInBounds j true) S' (inv.set hj hjn) hfree' (ready_mono hr (Ne.symm hji)) h3.1 ?_) h2
      rw [Array.setIfInBounds_comm _ _ hji]
      exact h3.2

/-- the tail, one behind the other -/
def seqL (md : Region.Mode) (ops : Array Oper) : List Nat → Array Bool → Bool
  | [], listed => (Region.ready md ops listed).isEmpty
  | k :: ks, listed => decide (Region.ready md ops listed = [k]) && seqL md ops ks (listed.setIfInBounds k true)
theorem seqL_ready {ks : List Nat} {listed : Array Bool} (hk : ks.all (fun k => decide (n ≤ k)) = true) (h : seqL md ops ks listed = true) : ∀ j ∈ Region.ready md ops listed, n ≤ j := by
  cases ks with
  | nil => intro j hj; simp only [seqL, List.isEmpty_iff] at h; rw [h] at hj; cases hj
  | cons k ks =>
    intro j hj
    simp only [seqL, Bool.and_eq_true, decide_eq_true_eq] at h
    rw [h.1] at hj
    have : j = k := by simpa using hj
    simp only [List.all_cons, Bool.and_eq_true, decide_eq_true_eq] at hk
    omega
theorem wpAny_of_seqL {Q' : Exit → Act → World → Prop} : ∀ (ks : List Nat) (os : List Oper) (listed : Array Bool) (a : Act) (w : World), ks.map (fun k => ops[k]?) = os.map some →
    seqL md ops ks listed = true → wpList P ops Q' os a w → wpAny P md ops Q' ks.length listed a w
  | [], os, listed, a, w, ho, hB, h => by
    have : os = [] := by simpa using ho.symm
    subst this
    exact ⟨by simpa [seqL] using hB, h⟩
  | k :: ks, [], _, _, _, ho, _, _ => by simp at ho
  | k :: ks, o :: os, listed, a, w, ho, hB, h => by
    simp only [List.map_cons, List.cons.injEq] at ho
    simp only [seqL, Bool.and_eq_true, decide_eq_true_eq] at hB
    refine ⟨fun h1 => (by rw [hB.1] at h1; cases h1), fun i hi => ?_⟩
    rw [hB.1] at hi
    have hik : i = k := by simpa using hi
    subst hik
    have hw : wpOp P ops Q' i (wpList P ops Q' os) a w := by unfold wpOp; simp only [ho.1]; exact h
    exact wpOp_mono (fun a' w' h' => wpAny_of_seqL ks os _ a' w' ho.2 hB.2 h') hw

def lexHead2 (md : Region.Mode) (ops : Array Oper) (ks : List Nat) : Nat → Nat → Array Bool → Bool
  | 0, _, listed => seqL md ops ks listed
  | f + 1, k, listed => (Region.ready md ops listed).contains k && Region.free md ops listed k && lexHead2 md ops ks f (k + 1) (listed.setIfInBounds k true)

theorem wpAnyE_lex2 {ks : List Nat} {Lq : (Tmp → AV) → Prop} (hk : ks.all (fun k => decide (n ≤ k)) = true) (hT : ∀ i, i < n → ∀ listed, HeadInv2 md ops n L0 listed → listed.getD i true = false → ∀ t, n ≤ t → t ∉ Region.ready md ops listed) :
    ∀ (l : List Oper) (k : Nat) (listed : Array Bool) (S : Tmp → AV), (∀ j, j < l.length → l[j]? = ops[k + j]?) → k + l.length = n → HeadInv2 md ops n L0 listed →
    lexHead2 md ops ks l.length k listed = true → wpSem P ops w0 Lq l S →
    wpAnyE P md ops w0 n (fun listed' S' => seqL md ops ks listed' = true ∧ Lq S') l.length listed S
  | [], k, listed, S, _, _, _, hB, h => ⟨by simpa [lexHead2] using hB, h⟩
  | o :: l, k, listed, S, hl, hkl, inv, hB, h => by
    have h0 : ops[k]? = some o := by simpa using (hl 0 (by simp)).symm
    simp only [List.length_cons, lexHead2, Bool.and_eq_true] at hB
    obtain ⟨⟨hr, hf⟩, hB'⟩ := hB
    have hkn : k < n := by simp only [List.length_cons] at hkl; omega
    have hr' : k ∈ Region.ready md ops listed := by simpa using hr
    obtain ⟨x, hy, hK⟩ := h
    exact wpAnyE_first2 h0 hkn (hT k hkn) (fun listed' S' hL => seqL_ready hk hL.1) l.length listed S inv (Region.free_spec h0 hf) hr' hy
      (wpAnyE_lex2 hk hT l (k + 1) _ _ (fun j hj => by have := hl (j + 1) (by simp; omega); simpa [Nat.add_assoc, Nat.add_comm 1 j] using this) (by simp only [List.length_cons] at hkl; omega) (inv.set hr' hkn) hB' hK)

theorem held_of_any {Q : Exit → Act → World → Prop} : ∀ (f : Nat) (listed : Array Bool) (a : Act) (w : World), wpAny P md ops Q f listed a w → wpAnyH P md ops Q (fun _ => True) f listed a w
  | 0, _, _, _, h => h
  | f + 1, _, _, _, h => ⟨h.1, fun i hi => wpOp_mono (fun a' w' h' => ⟨trivial, held_of_any f _ a' w' h'⟩) (h.2 i hi)⟩

/-- one that reads nothing is taken first -/
theorem wpAny_float {Q : Exit → Act → World → Prop} {i : Nat} {oi : Oper} {v : Value} {fuel : Nat} {listed : Array Bool} {a : Act} {w : World} (hi : ops[i]? = some oi)
    (hs : Region.noSelect ops = true) (hf : Region.free md ops listed i = true) (hr : (Region.ready md ops listed).contains i = true)
    (hQ : ∀ c a w, Q (.panic c) (a.put oi.dst v) w → Q (.panic c) a w) (hy : YieldsIf P ops (fun _ => True) oi v a)
    (h : wpAny P md ops Q fuel (listed.setIfInBounds i true) (a.put oi.dst v) w) : wpAny P md ops Q (fuel + 1) listed a w :=
  wpAny_of_held _ _ _ _ (wpAnyH_take hi hs hf hr hQ hy trivial (held_of_any _ _ _ _ h))

/-- n: how many the head has; j: the one that floats; ks: the tail -/
def extfB (ops : Array Oper) (n j : Nat) (ks : List Nat) : Bool :=
  decide (n < ops.size) && decide (n < j) && decide (j < ops.size) && decide (n + 1 + ks.length = ops.size) && ks.all (fun k => decide (n ≤ k)) && Region.noSelect ops && Region.free .any ops (Array.replicate ops.size false) j && (Region.ready .any ops (Array.replicate ops.size false)).contains j &&
  (((ops[j]?).map fun o => o.after.all fun e => !Region.binds .any e)).getD false && Region.sinkB .any ops n && chain2B .any ops n ((Array.replicate ops.size false).setIfInBounds j true) &&
  lexHead2 .any ops ks n 0 ((Array.replicate ops.size false).setIfInBounds j true)

/-- **A REGION THAT DRAWS ITS ORDER**: operation j is taken first; then the head of n operations, walked in the text's order; then the tail. -/
theorem wp_region_extf {id : Nat} {Q : Exit → Act → World → Prop} {a : Act} {w : World} {l : List Oper} (n j : Nat) (ks : List Nat) (oj : Oper) (os : List Oper) (v : Value) (hm : P.follows .mixedOrders = true) (hB : extfB l.toArray n j ks = true)
    (hoj : l.toArray[j]? = some oj) (hos : ks.map (fun k => l.toArray[k]?) = os.map some) (hd : dstsIn l.toArray a.tmps.size = true)
    (hQ : ∀ c a w, Q (.panic c) (a.put oj.dst v) w → Q (.panic c) a w) (hy : YieldsIf P l.toArray (fun _ => True) oj v a)
    (h : wpE P l.toArray w (fun a1 F => distinctB F = true ∧ (F.all fun x => x.1 < a.tmps.size) = true ∧ ∀ w', Ext w w' → EndQ w' F (fun a' => wpList P l.toArray Q os a' w') a1) (l.take n) (a.put oj.dst v) []) : (Code.region id l.toArray true).wp P Q a w := by
  simp only [extfB, Bool.and_eq_true, decide_eq_true_eq] at hB
  obtain ⟨⟨⟨⟨⟨⟨⟨⟨⟨⟨⟨hn, hnj⟩, hj⟩, hsz⟩, hks⟩, hsel⟩, hfree⟩, hready⟩, haft⟩, hsink⟩, hchain⟩, hlex⟩ := hB
  have hn' : n < l.length := by simpa using hn
  have htl : (l.take n).length = n := by simp; omega
  generalize hL0 : (Array.replicate l.toArray.size false).setIfInBounds j true = L0 at hchain hlex
  have hL0n : L0.getD n true = false := by
    rw [← hL0, getD_set_ne true (by omega)]
    exact getD_in (by simpa using hn') (getD_replicate_false _ _)
  have inv0 : HeadInv2 .any l.toArray n L0 L0 := by
    refine ⟨by rw [← hL0]; simp, fun k ok hk hl e he hb => ?_, fun t _ _ => rfl⟩
    by_cases hjk : j = k
    · subst hjk
      rw [hk] at haft
      simp only [Option.map_some, Option.getD_some] at haft
      have := (Array.all_eq_true_iff_forall_mem.1 haft) e he
      simp [hb] at this
    · rw [← hL0, getD_set_ne false hjk, getD_replicate_false] at hl
      cases hl
  have hT : ∀ i, i < n → ∀ listed, HeadInv2 .any l.toArray n L0 listed → listed.getD i true = false → ∀ t, n ≤ t → t ∉ Region.ready .any l.toArray listed := fun i hi listed inv hun t ht hr =>
    tail_waits2 hsink hchain hL0n hn inv _ i rfl hi hun t ht hr
  have hsize : (a.put oj.dst v).tmps.size = a.tmps.size := by cases oj.dst <;> simp [Act.put]
  have h1 := wpSem_of_wpE (ds := (a.put oj.dst v).defers) (m := a.tmps.size) (Q' := fun S => ∀ a' w', Ext w w' → Fits S a.tmps.size (a.put oj.dst v).defers a' w' → wpList P l.toArray Q os a' w') (fun a1 F hs1 hd1 hq a' w' hw' hf => by
    obtain ⟨hB1, hz, hq⟩ := hq
    refine EndQ_elim (a' := a') F hB1 (hq w' hw') (hf.1.trans hs1.symm) (hf.2.1.trans hd1.symm) (by rw [hs1]; exact hz) (fun t G hG => ?_) (fun t hn => ?_)
    · have hlt : t < a.tmps.size := by
        have := hz
        simp only [Facts.get, Option.map_eq_some_iff] at hG
        obtain ⟨x, hx, _⟩ := hG
        have h1 := List.find?_some hx
        have h2 := List.all_eq_true.1 hz x (List.mem_of_find?_eq_some hx)
        simp at h1 h2
        rw [← h1]; exact h2
      have := hf.2.2 t hlt
      rw [semOf_some hG] at this
      exact this
    · by_cases hlt : t < a.tmps.size
      · have := hf.2.2 t hlt
        rw [semOf_none hn] at this
        exact this
      · have h1 : a'.tmps.size ≤ t := by rw [hf.1]; exact Nat.le_of_not_lt hlt
        have h2 : a1.tmps.size ≤ t := by rw [hs1]; exact Nat.le_of_not_lt hlt
        simp [h1, h2]) _ _ [] hsize rfl h
  have H := wpAnyE_lex2 (md := .any) (L0 := L0) hks hT (l.take n) 0 L0 (semOf (a.put oj.dst v) []) (fun j hj => by
    have hj' : j < n := by rw [htl] at hj; exact hj
    simp [hj']) (by simpa using htl) inv0 (by rw [htl]; exact hlex) h1
  refine wp_region_any hm ?_
  have hw1 : Ext w { w with drawn := w.drawn + 1 } := Ext.drew w
  have hS0 : ∀ t, (semOf (a.put oj.dst v) [] t).Stable w := fun t => by rw [semOf_none (by rfl)]; exact AV.stable_k _ _
  have := wpAny_of_ext (w0 := w) (ds := (a.put oj.dst v).defers) (Q' := Q) (g := ks.length) hd (fun listed S hL a' w' hw' hf =>
    wpAny_of_seqL (md := .any) (Q' := Q) ks os listed a' w' hos hL.1 (hL.2 a' w' hw' hf)) _ _ (semOf (a.put oj.dst v) []) hS0 H (a.put oj.dst v) _ hw1 ⟨hsize, rfl, fun t _ => by rw [semOf_none (by rfl)]; rfl⟩
  rw [htl] at this
  suffices hk : ∀ f, f = (n + ks.length) + 1 → wpAny P .any l.toArray Q f (Array.replicate l.toArray.size false) a { w with drawn := w.drawn + 1 } from hk _ (by omega)
  intro f hf
  subst hf
  exact wpAny_float (md := .any) hoj hsel hfree hready hQ hy (by rw [hL0]; exact this)

/-- behind the first of the tail each other one of the tail waits for one of the tail -/
def tailB (md : Region.Mode) (ops : Array Oper) (n : Nat) : Bool :=
  (List.range ops.size).all fun t => decide (t ≤ n) || (List.range t).any fun j => decide (n ≤ j) && Region.waitsFor md ops t j
def mid2B (md : Region.Mode) (ops : Array Oper) (n g : Nat) (listed : Array Bool) : Bool :=
  decide (Region.ready md ops listed = [n]) && lexHead2 md ops [] g (n + 1) (listed.setIfInBounds n true)
def lexHead3 (md : Region.Mode) (ops : Array Oper) (n g : Nat) : Nat → Nat → Array Bool → Bool
  | 0, _, listed => mid2B md ops n g listed
  | f + 1, k, listed => (Region.ready md ops listed).contains k && Region.free md ops listed k && lexHead3 md ops n g f (k + 1) (listed.setIfInBounds k true)
def twoB (ops : Array Oper) (n : Nat) : Bool :=
  decide (n < ops.size) && Region.sinkB .any ops n && tailB .any ops n && lexHead3 .any ops n (ops.size - (n + 1)) n 0 (Array.replicate ops.size false)

theorem tail_waits3 {listed : Array Bool} (hs : Region.sinkB md ops n = true) (hc : tailB md ops n = true) (hn : n < ops.size) (inv : HeadInv md ops n listed) :
    ∀ (d i : Nat), n - i = d → i < n → listed.getD i true = false → ∀ t, n ≤ t → t ∉ Region.ready md ops listed := by
  intro d
  induction d using Nat.strongRecOn with
  | _ d ih =>
    intro i hd hi hun t ht hr
    obtain ⟨hrun, ot, hot, hall⟩ := mem_ready.1 hr
    have htlt : t < ops.size := (Array.getElem?_eq_some_iff.1 hot).1
    by_cases htn : t = n
    · subst htn
      have h1 := List.all_eq_true.1 hs i (List.mem_range.2 hi)
      obtain ⟨j, hj, hj2⟩ := List.any_eq_true.1 h1
      simp only [Bool.and_eq_true, decide_eq_true_eq] at hj2
      obtain ⟨oj, hoj, e, he, hb, hon⟩ := Region.waitsFor_spec hj2.2
      have hjle : j ≤ t := by have := List.mem_range.1 hj; omega
      by_cases hjt : j = t
      · subst hjt
        have : oj = ot := Option.some.inj (hoj.symm.trans hot)
        subst this
        have h2 := hall e he hb
        rw [hon, getD_both hun] at h2
        cases h2
      · cases hl : listed.getD j false with
        | true =>
          have h2 := inv.closed j oj hoj hl e he hb
          rw [hon, getD_both hun] at h2
          cases h2
        | false =>
          have hjs : j < listed.size := by rw [inv.size]; omega
          exact ih (t - j) (by omega) j rfl (by omega) (getD_in hjs hl) t (Nat.le_refl _) hr
    · have h1 := List.all_eq_true.1 hc t (List.mem_range.2 htlt)
      simp only [Bool.or_eq_true, decide_eq_true_eq] at h1
      rcases h1 with h1 | h1
      · omega
      · obtain ⟨j, hj, hj2⟩ := List.any_eq_true.1 h1
        simp only [Bool.and_eq_true, decide_eq_true_eq] at hj2
        obtain ⟨o', ho', e, he, hb, hon⟩ := Region.waitsFor_spec hj2.2
        have : o' = ot := Option.some.inj (ho'.symm.trans hot)
        subst this
        have h2 := hall e he hb
        rw [hon, getD_both (inv.tail j hj2.1 (by have := List.mem_range.1 hj; omega))] at h2
        cases h2

theorem wpAnyE_lex3 {g : Nat} {Lq : (Tmp → AV) → Prop} (hT : ∀ i, i < n → ∀ listed, HeadInv md ops n listed → listed.getD i true = false → ∀ t, n ≤ t → t ∉ Region.ready md ops listed) :
    ∀ (l : List Oper) (k : Nat) (listed : Array Bool) (S : Tmp → AV), (∀ j, j < l.length → l[j]? = ops[k + j]?) → k + l.length = n → HeadInv md ops n listed →
    lexHead3 md ops n g l.length k listed = true → wpSem P ops w0 Lq l S →
    wpAnyE P md ops w0 n (fun listed' S' => (mid2B md ops n g listed' = true ∧ HeadInv md ops n listed') ∧ Lq S') l.length listed S
  | [], k, listed, S, _, _, inv, hB, h => ⟨⟨by simpa [lexHead3] using hB, inv⟩, h⟩
  | o :: l, k, listed, S, hl, hkl, inv, hB, h => by
    have h0 : ops[k]? = some o := by simpa using (hl 0 (by simp)).symm
    simp only [List.length_cons, lexHead3, Bool.and_eq_true] at hB
    obtain ⟨⟨hr, hf⟩, hB'⟩ := hB
    have hkn : k < n := by simp only [List.length_cons] at hkl; omega
    have hr' : k ∈ Region.ready md ops listed := by simpa using hr
    obtain ⟨x, hy, hK⟩ := h
    exact wpAnyE_first h0 hkn (hT k hkn) (fun listed' S' hL j hj => by
        have := hL.1.1
        simp only [mid2B, Bool.and_eq_true, decide_eq_true_eq] at this
        rw [this.1] at hj
        have : j = n := by simpa using hj
        omega) l.length listed S inv (Region.free_spec h0 hf) hr' hy
      (wpAnyE_lex3 hT l (k + 1) _ _ (fun j hj => by have := hl (j + 1) (by simp; omega); simpa [Nat.add_assoc, Nat.add_comm 1 j] using this) (by simp only [List.length_cons] at hkl; omega) (inv.set hr' hkn) hB' hK)

/-- the slots of an act, read off behind a walk -/
theorem endQ_of {K : Act → World → Prop} {m : Nat} {w' : World} {a1 : Act} {F : Facts} (hs1 : a1.tmps.size = m) (hd1 : a1.defers = ds) (hB1 : distinctB F = true) (hz : (F.all fun x => x.1 < m) = true) (hq : EndQ w' F (fun a' => K a' w') a1)
    {a' : Act} (hf : Fits (semOf a1 F) m ds a' w') : K a' w' := by
  refine EndQ_elim (a' := a') F hB1 hq (hf.1.trans hs1.symm) (hf.2.1.trans hd1.symm) (by rw [hs1]; exact hz) (fun t G hG => ?_) (fun t hn => ?_)
  · have hlt : t < m := by
      have := hz
      simp only [Facts.get, Option.map_eq_some_iff] at hG
      obtain ⟨x, hx, _⟩ := hG
      have h1 := List.find?_some hx
      have h2 := List.all_eq_true.1 hz x (List.mem_of_find?_eq_some hx)
      simp at h1 h2
      rw [← h1]; exact h2
    have := hf.2.2 t hlt
    rw [semOf_some hG] at this
    exact this
  · by_cases hlt : t < m
    · have := hf.2.2 t hlt
      rw [semOf_none hn] at this
      exact this
    · have h1 : a'.tmps.size ≤ t := by rw [hf.1]; exact Nat.le_of_not_lt hlt
      have h2 : a1.tmps.size ≤ t := by rw [hs1]; exact Nat.le_of_not_lt hlt
      simp [h1, h2]

/-- **A REGION THAT DRAWS ITS ORDER, IN THE MIDST OF IT ONE OPERATION THAT MAY TURN WHATEVER IT WILL**: n operations ahead of it, the rest behind it, which only read or make. -/
theorem wp_region_two {id : Nat} {Q : Exit → Act → World → Prop} {a : Act} {w : World} {l : List Oper} (n : Nat) (o : Oper) (hm : P.follows .mixedOrders = true) (hB : twoB l.toArray n = true) (ho : l.toArray[n]? = some o) (hd : dstsIn l.toArray a.tmps.size = true)
    (h : wpE P l.toArray w (fun a1 F => distinctB F = true ∧ (F.all fun x => x.1 < a.tmps.size) = true ∧ ∀ w', Ext w w' → EndQ w' F (fun a' => wpList P l.toArray (Exit.then (fun a2 w2 => a2.tmps.size = a.tmps.size ∧
      wpE P l.toArray w2 (fun a3 F3 => distinctB F3 = true ∧ (F3.all fun x => x.1 < a.tmps.size) = true ∧ ∀ w3, Ext w2 w3 → EndQ w3 F3 (fun a4 => Q .normal a4 w3) a3) (l.drop (n + 1)) a2 []) Q) [o] a' w') a1) (l.take n) a []) : (Code.region id l.toArray true).wp P Q a w := by
  simp only [twoB, Bool.and_eq_true, decide_eq_true_eq] at hB
  obtain ⟨⟨⟨hn, hsink⟩, htail⟩, hlex⟩ := hB
  have hn' : n < l.length := by simpa using hn
  have htl : (l.take n).length = n := by simp; omega
  have inv0 : HeadInv .any l.toArray n (Array.replicate l.toArray.size false) :=
    ⟨by simp, fun j oj _ hl => (by rw [getD_replicate_false] at hl; cases hl), fun t _ ht => getD_in (by simpa using ht) (getD_replicate_false _ _)⟩
  have hT : ∀ i, i < n → ∀ listed, HeadInv .any l.toArray n listed → listed.getD i true = false → ∀ t, n ≤ t → t ∉ Region.ready .any l.toArray listed := fun i hi listed inv hun t ht hr =>
    tail_waits3 hsink htail hn inv _ i rfl hi hun t ht hr
  have h1 := wpSem_of_wpE (ds := a.defers) (m := a.tmps.size) (Q' := fun S => ∀ a' w', Ext w w' → Fits S a.tmps.size a.defers a' w' → wpList P l.toArray (Exit.then (fun a2 w2 => a2.tmps.size = a.tmps.size ∧
      wpE P l.toArray w2 (fun a3 F3 => distinctB F3 = true ∧ (F3.all fun x => x.1 < a.tmps.size) = true ∧ ∀ w3, Ext w2 w3 → EndQ w3 F3 (fun a4 => Q .normal a4 w3) a3) (l.drop (n + 1)) a2 []) Q) [o] a' w')
    (fun a1 F hs1 hd1 hq a' w' hw' hf => endQ_of hs1 hd1 hq.1 hq.2.1 (hq.2.2 w' hw') hf) _ _ [] rfl rfl h
  have H := wpAnyE_lex3 (md := .any) hT (l.take n) 0 (Array.replicate l.toArray.size false) (semOf a []) (fun j hj => by
    have hj' : j < n := by rw [htl] at hj; exact hj
    simp [hj']) (by simpa using htl) inv0 (by rw [htl]; exact hlex) h1
  refine wp_region_any hm ?_
  have hw1 : Ext w { w with drawn := w.drawn + 1 } := Ext.drew w
  have hS0 : ∀ t, (semOf a [] t).Stable w := fun t => by rw [semOf_none (by rfl)]; exact AV.stable_k _ _
  have := wpAny_of_ext (w0 := w) (ds := a.defers) (Q' := Q) (g := (l.toArray.size - (n + 1)) + 1) hd (fun listed S hL a' w' hw' hf => by
    obtain ⟨⟨hmid, inv⟩, hq⟩ := hL
    simp only [mid2B, Bool.and_eq_true, decide_eq_true_eq] at hmid
    have hq := hq a' w' hw' hf
    refine ⟨fun h1 => (by rw [hmid.1] at h1; cases h1), fun i hi => ?_⟩
    have hin : i = n := by rw [hmid.1] at hi; simpa using hi
    subst hin
    -- the operation in the midst, then the rest
    have key : ∀ a2 w2, (a2.tmps.size = a.tmps.size ∧ wpE P l.toArray w2 (fun a3 F3 => distinctB F3 = true ∧ (F3.all fun x => x.1 < a.tmps.size) = true ∧ ∀ w3, Ext w2 w3 → EndQ w3 F3 (fun a4 => Q .normal a4 w3) a3) (l.drop (i + 1)) a2 []) →
        wpAny P .any l.toArray Q (l.toArray.size - (i + 1)) (listed.setIfInBounds i true) a2 w2 := by
      rintro a2 w2 ⟨hsz, h2⟩
      have hdl : (l.drop (i + 1)).length = l.toArray.size - (i + 1) := by simp
      have inv2 : HeadInv2 .any l.toArray l.toArray.size (listed.setIfInBounds i true) (listed.setIfInBounds i true) := by
        obtain ⟨_, oi, hoi, hall⟩ := mem_ready.1 hi
        refine ⟨by simp [inv.size], fun j oj hj hl e he hb => ?_, fun t h1 h2 => rfl⟩
        by_cases hij : i = j
        · subst hij
          have : oj = oi := Option.some.inj (hj.symm.trans hoi)
          subst this
          exact getD_set_true (hall e he hb)
        · rw [getD_set_ne false hij] at hl
          exact getD_set_true (inv.closed j oj hj hl e he hb)
      have h3 := wpSem_of_wpE (ds := a2.defers) (m := a.tmps.size) (Q' := fun S => ∀ a' w', Ext w2 w' → Fits S a.tmps.size a2.defers a' w' → Q .normal a' w')
        (fun a1 F hs1 hd1 hq a' w' hw' hf => endQ_of (K := fun a4 w3 => Q .normal a4 w3) hs1 hd1 hq.1 hq.2.1 (hq.2.2 w' hw') hf) _ _ [] hsz rfl h2
      have H2 := wpAnyE_lex2 (md := .any) (n := l.toArray.size) (L0 := listed.setIfInBounds i true) (ks := []) (by rfl) (fun j _ listed' _ _ t ht hr => by
        obtain ⟨_, ot, hot, _⟩ := mem_ready.1 hr
        have htlt := (Array.getElem?_eq_some_iff.1 hot).1
        omega) (l.drop (i + 1)) (i + 1) (listed.setIfInBounds i true) (semOf a2 []) (fun j _ => by simp) (by rw [hdl]; omega) inv2 (by rw [hdl]; exact hmid.2) h3
      have hS2 : ∀ t, (semOf a2 [] t).Stable w2 := fun t => by rw [semOf_none (by rfl)]; exact AV.stable_k _ _
      have := wpAny_of_ext (w0 := w2) (ds := a2.defers) (Q' := Q) (g := 0) (m := a.tmps.size) hd (fun listed S hL a' w' hw' hf => by
        refine ⟨by simpa [seqL] using hL.1, hL.2 a' w' hw' hf⟩) _ _ (semOf a2 []) hS2 H2 a2 w2 (Ext.refl _) ⟨hsz, rfl, fun t _ => by rw [semOf_none (by rfl)]; rfl⟩
      rw [hdl] at this
      exact this
    unfold wpOp
    simp only [ho]
    simp only [wpList] at hq
    split
    · rename_i hw
      simp only [hw, if_true] at hq
      rcases hq with hq | ⟨hq1, hq2⟩
      · refine .inl ?_
        unfold Oper.wp at hq ⊢
        generalize (execOp a'.eval o).run P w' = r at hq ⊢
        cases r with
        | ok nx w2 =>
          cases nx <;> simp only [Oper.upon] at hq ⊢
          case value u => exact key _ _ hq
          case skip => exact key _ _ hq
          case defer d => exact key _ _ hq
          case enter f args => exact Calls.mono hq fun e w'' he => by cases e <;> first | exact key _ _ he | exact he
          case row row args => exact Rows.mono hq fun u w'' he => key _ _ he
        | halt x w2 =>
          cases x <;> simp only [Oper.upon] at hq ⊢ <;> exact hq
      · exact .inr ⟨hq1, hq2⟩
    · rename_i hw
      simp only [hw] at hq
      exact key _ _ hq) _ _ (semOf a []) hS0 H a _ hw1 ⟨rfl, rfl, fun t _ => by rw [semOf_none (by rfl)]; rfl⟩
  rw [htl, show n + (l.toArray.size - (n + 1) + 1) = l.toArray.size by omega] at this
  exact this
end
end Go.Proofs.Ythjpcnceppmnmaa
