/-
  Regions that draw their order: an address of a field may be reckoned whenever; the head only reads or makes new memory; the tail waits for the head.
  The state of a laying: which blocks it may turn.
  The laying itself: a function that calls itself.
-/
import Derived.Test.YtpfjkjmimmklcaaGround
import Derived.OrdersHeld
import Derived.Test.YtpfjkjmimmklcaaRefC
namespace Go.Proofs.Ytpfjkjmimmklcaa
open Go.RowKit

structure HeadInv2 (md : Region.Mode) (ops : Array Oper) (n : Nat) (L0 listed : Array Bool) : Prop where
  size : listed.size = ops.size
  closed : ∀ j oj, ops[j]? = some oj → listed.getD j false = true → ∀ e ∈ oj.after, Region.binds md e = true → listed.getD e.on false = true
  tail : ∀ t, n ≤ t → t < ops.size → listed.getD t true = L0.getD t true

section
variable {P : Program} {ops : Array Oper} {md : Region.Mode} {w0 : World} {n : Nat} {ds : List Deferred} {L0 : Array Bool}

theorem HeadInv2.set {i : Nat} {listed : Array Bool} (inv : HeadInv2 md ops n L0 listed) (hi : i ∈ Region.ready md ops listed) (hin : i < n) : HeadInv2 md ops n L0 (listed.setIfInBounds i true) := by
  obtain ⟨_, oi, hoi, hall⟩ := mem_ready.1 hi
  refine ⟨by simp [inv.size], fun j oj hj hl e he hb => ?_, fun t ht ht' => by rw [getD_set_ne true (by omega)]; exact inv.tail t ht ht'⟩
  by_cases hij : i = j
  · subst hij
    have : oj = oi := Option.some.inj (hj.symm.trans hoi)
    subst this
    exact getD_set_true (hall e he hb)
  · rw [getD_set_ne false hij] at hl
    exact getD_set_true (inv.closed j oj hj hl e he hb)

/-- behind the first of the tail each other one of the tail waits for it, or has been taken already -/
def chain2B (md : Region.Mode) (ops : Array Oper) (n : Nat) (L0 : Array Bool) : Bool :=
  (List.range ops.size).all fun t => decide (t ≤ n) || L0.getD t true || Region.waitsFor md ops t n

theorem tail_waits2 {listed : Array Bool} (hs : Region.sinkB md ops n = true) (hc : chain2B md ops n L0 = true) (hn0 : L0.getD n true = false) (hn : n < ops.size) (inv : HeadInv2 md ops n L0 listed) :
    ∀ (d i : Nat), n - i = d → i < n → listed.getD i true = false → ∀ t, n ≤ t → t ∉ Region.ready md ops listed := by
  intro d
  induction d using Nat.strongRecOn with
  | _ d ih =>
    intro i hd hi hun t ht hr
    obtain ⟨hrun, ot, hot, hall⟩ := mem_ready.1 hr
    have htlt : t < ops.size := (Array.getElem?_eq_some_iff.1 hot).1
    by_cases htn : t = n
    · subst htn
      have h1 := List.all_eq_true.1 hs i (List.mem_range.2 hi)
      obtain ⟨j, hj, hj2⟩ := List.any_eq_true.1 h1
      simp only [Bool.and_eq_true, decide_eq_true_eq] at hj2
      obtain ⟨oj, hoj, e, he, hb, hon⟩ := Region.waitsFor_spec hj2.2
      have hjle : j ≤ t := by have := List.mem_range.1 hj; omega
      by_cases hjt : j = t
      · subst hjt
        have : oj = ot := Option.some.inj (hoj.symm.trans hot)
        subst this
        have h2 := hall e he hb
        rw [hon, getD_both hun] at h2
        cases h2
      · cases hl : listed.getD j false with
        | true =>
          have h2 := inv.closed j oj hoj hl e he hb
          rw [hon, getD_both hun] at h2
          cases h2
        | false =>
          have hjs : j < listed.size := by rw [inv.size]; omega
          exact ih (t - j) (by omega) j rfl (by omega) (getD_in hjs hl) t (Nat.le_refl _) hr
    · have h1 := List.all_eq_true.1 hc t (List.mem_range.2 htlt)
      simp only [Bool.or_eq_true, decide_eq_true_eq] at h1
      rcases h1 with (h1 | h1) | h1
      · omega
      · rw [inv.tail t ht htlt, h1] at hrun
        cases hrun
      · obtain ⟨o', ho', e, he, hb, hon⟩ := Region.waitsFor_spec h1
        have : o' = ot := Option.some.inj (ho'.symm.trans hot)
        subst this
        have h2 := hall e he hb
        have h3 := inv.tail n (Nat.le_refl _) hn
        rw [hn0] at h3
        rw [hon, getD_both h3] at h2
        cases h2

theorem wpAnyE_first2 {i : Nat} {oi : Oper} {x : AV} {L : Array Bool → (Tmp → AV) → Prop} (hi : ops[i]? = some oi) (hin : i < n)
    (hT : ∀ listed, HeadInv2 md ops n L0 listed → listed.getD i true = false → ∀ t, n ≤ t → t ∉ Region.ready md ops listed)
    (hdone : ∀ listed S, L listed S → ∀ j ∈ Region.ready md ops listed, n ≤ j) :
    ∀ (f : Nat) (listed : Array Bool) (S : Tmp → AV), HeadInv2 md ops n L0 listed →
      (∀ j oj, ops[j]? = some oj → j ≠ i → listed.getD j true = false → (∀ e ∈ oj.after, Region.binds md e = true → e.on ≠ i) → oi.apart ops oj = true) →
      i ∈ Region.ready md ops listed → EStep P ops w0 S oi x →
      wpAnyE P md ops w0 n L f (listed.setIfInBounds i true) (sput S oi.dst x) → wpAnyE P md ops w0 n L (f + 1) listed S := by
  have hself : ∀ {S : Tmp → AV} {K : (Tmp → AV) → Prop}, EStep P ops w0 S oi x → K (sput S oi.dst x) → eOp P ops w0 i K S := fun hy hK => by
    unfold eOp; simp only [hi]; exact ⟨x, hy, hK⟩
  intro f
  induction f with
  | zero =>
    intro listed S inv _ hr hy H
    have hun := (mem_ready.1 hr).1
    refine ⟨fun h => (by rw [h] at hr; cases hr), fun j hj => ?_⟩
    have hjn : j < n := by
      rcases Nat.lt_or_ge j n with h | h
      · exact h
      · exact absurd hj (hT listed inv hun j h)
    refine ⟨hjn, ?_⟩
    by_cases hji : j = i
    · subst hji; exact hself hy H
    · have := hdone _ _ H j (ready_mono hj hji)
      omega
  | succ f ih =>
    intro listed S inv hfree hr hy H
    have hun := (mem_ready.1 hr).1
    refine ⟨fun h => (by rw [h] at hr; cases hr), fun j hj => ?_⟩
    have hjn : j < n := by
      rcases Nat.lt_or_ge j n with h | h
      · exact h
      · exact absurd hj (hT listed inv hun j h)
    refine ⟨hjn, ?_⟩
    by_cases hji : j = i
    · subst hji; exact hself hy H
    · have h1 := (H.2 j (ready_mono hj hji)).2
      obtain ⟨hjun, oj, hoj, hall⟩ := mem_ready.1 hj
      have hnot : ∀ e ∈ oj.after, Region.binds md e = true → e.on ≠ i := fun e he hb heq => by
        have h1 := hall e he hb
        rw [heq, getD_both hun] at h1
        cases h1
      have h2 := eOp_put hoj (hfree j oj hoj hji hjun hnot) hy h1
      have hfree' : ∀ k ok, ops[k]? = some ok → k ≠ i → (listed.setIfInBounds j true).getD k true = false →
          (∀ e ∈ ok.after, Region.binds md e = true → e.on ≠ i) → oi.apart ops ok = true := fun k ok hk hki hun hno => by
        refine hfree k ok hk hki ?_ hno
        by_cases hjk : j = k
        · subst hjk; exact hjun
        · rw [getD_set_ne true hjk] at hun; exact hun
      refine eOp_mono (fun S' h3 => ih (listed.setIfInBounds j true) S' (inv.set hj hjn) hfree' (ready_mono hr (Ne.symm hji)) h3.1 ?_) h2
      rw [Array.setIfInBounds_comm _ _ hji]
      exact h3.2

/-- the tail, one behind the other -/
def seqL (md : Region.Mode) (ops : Array Oper) : List Nat → Array Bool → Bool
  | [], listed => (Region.ready md ops listed).isEmpty
  | k :: ks, listed => decide (Region.ready md ops listed = [k]) && seqL md ops ks (listed.setIfInBounds k true)
theorem seqL_ready {ks : List Nat} {listed : Array Bool} (hk : ks.all (fun k => decide (n ≤ k)) = true) (h : seqL md ops ks listed = true) : ∀ j ∈ Region.ready md ops listed, n ≤ j := by
  cases ks with
  | nil => intro j hj; simp only [seqL, List.isEmpty_iff] at h; rw [h] at hj; cases hj
  | cons k ks =>
    intro j hj
    simp only [seqL, Bool.and_eq_true, decide_eq_true_eq] at h
    rw [h.1] at hj
    have : j = k := by simpa using hj
    simp only [List.all_cons, Bool.and_eq_true, decide_eq_true_eq] at hk
    omega
theorem wpAny_of_seqL {Q' : Exit → Act → World → Prop} : ∀ (ks : List Nat) (os : List Oper) (listed : Array Bool) (a : Act) (w : World), ks.map (fun k => ops[k]?) = os.map some →
    seqL md ops ks listed = true → wpList P ops Q' os a w → wpAny P md ops Q' ks.length listed a w
  | [], os, listed, a, w, ho, hB, h => by
    have : os = [] := by simpa using ho.symm
    subst this
    exact ⟨by simpa [seqL] using hB, h⟩
  | k :: ks, [], _, _, _, ho, _, _ => by simp at ho
  | k :: ks, o :: os, listed, a, w, ho, hB, h => by
    simp only [List.map_cons, List.cons.injEq] at ho
    simp only [seqL, Bool.and_eq_true, decide_eq_true_eq] at hB
    refine ⟨fun h1 => (by rw [hB.1] at h1; cases h1), fun i hi => ?_⟩
    rw [hB.1] at hi
    have hik : i = k := by simpa using hi
    subst hik
    have hw : wpOp P ops Q' i (wpList P ops Q' os) a w := by unfold wpOp; simp only [ho.1]; exact h
    exact wpOp_mono (fun a' w' h' => wpAny_of_seqL ks os _ a' w' ho.2 hB.2 h') hw

def lexHead2 (md : Region.Mode) (ops : Array Oper) (ks : List Nat) : Nat → Nat → Array Bool → Bool
  | 0, _, listed => seqL md ops ks listed
  | f + 1, k, listed => (Region.ready md ops listed).contains k && Region.free md ops listed k && lexHead2 md ops ks f (k + 1) (listed.setIfInBounds k true)

theorem wpAnyE_lex2 {ks : List Nat} {Lq : (Tmp → AV) → Prop} (hk : ks.all (fun k => decide (n ≤ k)) = true) (hT : ∀ i, i < n → ∀ listed, HeadInv2 md ops n L0 listed → listed.getD i true = false → ∀ t, n ≤ t → t ∉ Region.ready md ops listed) :
    ∀ (l : List Oper) (k : Nat) (listed : Array Bool) (S : Tmp → AV), (∀ j, j < l.length → l[j]? = ops[k + j]?) → k + l.length = n → HeadInv2 md ops n L0 listed →
    lexHead2 md ops ks l.length k listed = true → wpSem P ops w0 Lq l S →
    wpAnyE P md ops w0 n (fun listed' S' => seqL md ops ks listed' = true ∧ Lq S') l.length listed S
  | [], k, listed, S, _, _, _, hB, h => ⟨by simpa [lexHead2] using hB, h⟩
  | o :: l, k, listed, S, hl, hkl, inv, hB, h => by
    have h0 : ops[k]? = some o := by simpa using (hl 0 (by simp)).symm
    simp only [List.length_cons, lexHead2, Bool.and_eq_true] at hB
    obtain ⟨⟨hr, hf⟩, hB'⟩ := hB
    have hkn : k < n := by simp only [List.length_cons] at hkl; omega
    have hr' : k ∈ Region.ready md ops listed := by simpa using hr
    obtain ⟨x, hy, hK⟩ := h
    exact wpAnyE_first2 h0 hkn (hT k hkn) (fun listed' S' hL => seqL_ready hk hL.1) l.length listed S inv (Region.free_spec h0 hf) hr' hy
      (wpAnyE_lex2 hk hT l (k + 1) _ _ (fun j hj => by have := hl (j + 1) (by simp; omega); simpa [Nat.add_assoc, Nat.add_comm 1 j] using this) (by simp only [List.length_cons] at hkl; omega) (inv.set hr' hkn) hB' hK)

theorem held_of_any {Q : Exit → Act → World → Prop} : ∀ (f : Nat) (listed : Array Bool) (a : Act) (w : World), wpAny P md ops Q f listed a w → wpAnyH P md ops Q (fun _ => True) f listed a w
  | 0, _, _, _, h => h
  | f + 1, _, _, _, h => ⟨h.1, fun i hi => wpOp_mono (fun a' w' h' => ⟨trivial, held_of_any f _ a' w' h'⟩) (h.2 i hi)⟩

/-- one that reads nothing is taken first -/
theorem wpAny_float {Q : Exit → Act → World → Prop} {i : Nat} {oi : Oper} {v : Value} {fuel : Nat} {listed : Array Bool} {a : Act} {w : World} (hi : ops[i]? = some oi)
    (hs : Region.noSelect ops = true) (hf : Region.free md ops listed i = true) (hr : (Region.ready md ops listed).contains i = true)
    (hQ : ∀ c a w, Q (.panic c) (a.put oi.dst v) w → Q (.panic c) a w) (hy : YieldsIf P ops (fun _ => True) oi v a)
    (h : wpAny P md ops Q fuel (listed.setIfInBounds i true) (a.put oi.dst v) w) : wpAny P md ops Q (fuel + 1) listed a w :=
  wpAny_of_held _ _ _ _ (wpAnyH_take hi hs hf hr hQ hy trivial (held_of_any _ _ _ _ h))

/-- n: how many the head has; j: the one that floats; ks: the tail -/
def extfB (ops : Array Oper) (n j : Nat) (ks : List Nat) : Bool :=
  decide (n < ops.size) && decide (n < j) && decide (j < ops.size) && decide (n + 1 + ks.length = ops.size) && ks.all (fun k => decide (n ≤ k)) && Region.noSelect ops && Region.free .any ops (Array.replicate ops.size false) j && (Region.ready .any ops (Array.replicate ops.size false)).contains j &&
  (((ops[j]?).map fun o => o.after.all fun e => !Region.binds .any e)).getD false && Region.sinkB .any ops n && chain2B .any ops n ((Array.replicate ops.size false).setIfInBounds j true) &&
  lexHead2 .any ops ks n 0 ((Array.replicate ops.size false).setIfInBounds j true)

/-- **A REGION THAT DRAWS ITS ORDER**: operation j is taken first; then the head of n operations, walked in the text's order; then the tail. -/
theorem wp_region_extf {id : Nat} {Q : Exit → Act → World → Prop} {a : Act} {w : World} {l : List Oper} (n j : Nat) (ks : List Nat) (oj : Oper) (os : List Oper) (v : Value) (hm : P.follows .mixedOrders = true) (hB : extfB l.toArray n j ks = true)
    (hoj : l.toArray[j]? = some oj) (hos : ks.map (fun k => l.toArray[k]?) = os.map some) (hd : dstsIn l.toArray a.tmps.size = true)
    (hQ : ∀ c a w, Q (.panic c) (a.put oj.dst v) w → Q (.panic c) a w) (hy : YieldsIf P l.toArray (fun _ => True) oj v a)
    (h : wpE P l.toArray w (fun a1 F => distinctB F = true ∧ (F.all fun x => x.1 < a.tmps.size) = true ∧ ∀ w', Ext w w' → EndQ w' F (fun a' => wpList P l.toArray Q os a' w') a1) (l.take n) (a.put oj.dst v) []) : (Code.region id l.toArray true).wp P Q a w := by
  simp only [extfB, Bool.and_eq_true, decide_eq_true_eq] at hB
  obtain ⟨⟨⟨⟨⟨⟨⟨⟨⟨⟨⟨hn, hnj⟩, hj⟩, hsz⟩, hks⟩, hsel⟩, hfree⟩, hready⟩, haft⟩, hsink⟩, hchain⟩, hlex⟩ := hB
  have hn' : n < l.length := by simpa using hn
  have htl : (l.take n).length = n := by simp; omega
  generalize hL0 : (Array.replicate l.toArray.size false).setIfInBounds j true = L0 at hchain hlex
  have hL0n : L0.getD n true = false := by
    rw [← hL0, getD_set_ne true (by omega)]
    exact getD_in (by simpa using hn') (getD_replicate_false _ _)
  have inv0 : HeadInv2 .any l.toArray n L0 L0 := by
    refine ⟨by rw [← hL0]; simp, fun k ok hk hl e he hb => ?_, fun t _ _ => rfl⟩
    by_cases hjk : j = k
    · subst hjk
      rw [hk] at haft
      simp only [Option.map_some, Option.getD_some] at haft
      have := (Array.all_eq_true_iff_forall_mem.1 haft) e he
      simp [hb] at this
    · rw [← hL0, getD_set_ne false hjk, getD_replicate_false] at hl
      cases hl
  have hT : ∀ i, i < n → ∀ listed, HeadInv2 .any l.toArray n L0 listed → listed.getD i true = false → ∀ t, n ≤ t → t ∉ Region.ready .any l.toArray listed := fun i hi listed inv hun t ht hr =>
    tail_waits2 hsink hchain hL0n hn inv _ i rfl hi hun t ht hr
  have hsize : (a.put oj.dst v).tmps.size = a.tmps.size := by cases oj.dst <;> simp [Act.put]
  have h1 := wpSem_of_wpE (ds := (a.put oj.dst v).defers) (m := a.tmps.size) (Q' := fun S => ∀ a' w', Ext w w' → Fits S a.tmps.size (a.put oj.dst v).defers a' w' → wpList P l.toArray Q os a' w') (fun a1 F hs1 hd1 hq a' w' hw' hf => by
    obtain ⟨hB1, hz, hq⟩ := hq
    refine EndQ_elim (a' := a') F hB1 (hq w' hw') (hf.1.trans hs1.symm) (hf.2.1.trans hd1.symm) (by rw [hs1]; exact hz) (fun t G hG => ?_) (fun t hn => ?_)
    · have hlt : t < a.tmps.size := by
        have := hz
        simp only [Facts.get, Option.map_eq_some_iff] at hG
        obtain ⟨x, hx, _⟩ := hG
        have h1 := List.find?_some hx
        have h2 := List.all_eq_true.1 hz x (List.mem_of_find?_eq_some hx)
        simp at h1 h2
        rw [← h1]; exact h2
      have := hf.2.2 t hlt
      rw [semOf_some hG] at this
      exact this
    · by_cases hlt : t < a.tmps.size
      · have := hf.2.2 t hlt
        rw [semOf_none hn] at this
        exact this
      · have h1 : a'.tmps.size ≤ t := by rw [hf.1]; exact Nat.le_of_not_lt hlt
        have h2 : a1.tmps.size ≤ t := by rw [hs1]; exact Nat.le_of_not_lt hlt
        simp [h1, h2]) _ _ [] hsize rfl h
  have H := wpAnyE_lex2 (md := .any) (L0 := L0) hks hT (l.take n) 0 L0 (semOf (a.put oj.dst v) []) (fun j hj => by
    have hj' : j < n := by rw [htl] at hj; exact hj
    simp [hj']) (by simpa using htl) inv0 (by rw [htl]; exact hlex) h1
  refine wp_region_any hm ?_
  have hw1 : Ext w { w with drawn := w.drawn + 1 } := Ext.drew w
  have hS0 : ∀ t, (semOf (a.put oj.dst v) [] t).Stable w := fun t => by rw [semOf_none (by rfl)]; exact AV.stable_k _ _
  have := wpAny_of_ext (w0 := w) (ds := (a.put oj.dst v).defers) (Q' := Q) (g := ks.length) hd (fun listed S hL a' w' hw' hf =>
    wpAny_of_seqL (md := .any) (Q' := Q) ks os listed a' w' hos hL.1 (hL.2 a' w' hw' hf)) _ _ (semOf (a.put oj.dst v) []) hS0 H (a.put oj.dst v) _ hw1 ⟨hsize, rfl, fun t _ => by rw [semOf_none (by rfl)]; rfl⟩
  rw [htl] at this
  suffices hk : ∀ f, f = (n + ks.length) + 1 → wpAny P .any l.toArray Q f (Array.replicate l.toArray.size false) a { w with drawn := w.drawn + 1 } from hk _ (by omega)
  intro f hf
  subst hf
  exact wpAny_float (md := .any) hoj hsel hfree hready hQ hy (by rw [hL0]; exact this)

/-- behind the first of the tail each other one of the tail waits for one of the tail -/
def tailB (md : Region.Mode) (ops : Array Oper) (n : Nat) : Bool :=
  (List.range ops.size).all fun t => decide (t ≤ n) || (List.range t).any fun j => decide (n ≤ j) && Region.waitsFor md ops t j
def mid2B (md : Region.Mode) (ops : Array Oper) (n g : Nat) (listed : Array Bool) : Bool :=
  decide (Region.ready md ops listed = [n]) && lexHead2 md ops [] g (n + 1) (listed.setIfInBounds n true)
def lexHead3 (md : Region.Mode) (ops : Array Oper) (n g : Nat) : Nat → Nat → Array Bool → Bool
  | 0, _, listed => mid2B md ops n g listed
  | f + 1, k, listed => (Region.ready md ops listed).contains k && Region.free md ops listed k && lexHead3 md ops n g f (k + 1) (listed.setIfInBounds k true)
def twoB (ops : Array Oper) (n : Nat) : Bool :=
  decide (n < ops.size) && Region.sinkB .any ops n && tailB .any ops n && lexHead3 .any ops n (ops.size - (n + 1)) n 0 (Array.replicate ops.size false)

theorem tail_waits3 {listed : Array Bool} (hs : Region.sinkB md ops n = true) (hc : tailB md ops n = true) (hn : n < ops.size) (inv : HeadInv md ops n listed) :
    ∀ (d i : Nat), n - i = d → i < n → listed.getD i true = false → ∀ t, n ≤ t → t ∉ Region.ready md ops listed := by
  intro d
  induction d using Nat.strongRecOn with
  | _ d ih =>
    intro i hd hi hun t ht hr
    obtain ⟨hrun, ot, hot, hall⟩ := mem_ready.1 hr
    have htlt : t < ops.size := (Array.getElem?_eq_some_iff.1 hot).1
    by_cases htn : t = n
    · subst htn
      have h1 := List.all_eq_true.1 hs i (List.mem_range.2 hi)
      obtain ⟨j, hj, hj2⟩ := List.any_eq_true.1 h1
      simp only [Bool.and_eq_true, decide_eq_true_eq] at hj2
      obtain ⟨oj, hoj, e, he, hb, hon⟩ := Region.waitsFor_spec hj2.2
      have hjle : j ≤ t := by have := List.mem_range.1 hj; omega
      by_cases hjt : j = t
      · subst hjt
        have : oj = ot := Option.some.inj (hoj.symm.trans hot)
        subst this
        have h2 := hall e he hb
        rw [hon, getD_both hun] at h2
        cases h2
      · cases hl : listed.getD j false with
        | true =>
          have h2 := inv.closed j oj hoj hl e he hb
          rw [hon, getD_both hun] at h2
          cases h2
        | false =>
          have hjs : j < listed.size := by rw [inv.size]; omega
          exact ih (t - j) (by omega) j rfl (by omega) (getD_in hjs hl) t (Nat.le_refl _) hr
    · have h1 := List.all_eq_true.1 hc t (List.mem_range.2 htlt)
      simp only [Bool.or_eq_true, decide_eq_true_eq] at h1
      rcases h1 with h1 | h1
      · omega
      · obtain ⟨j, hj, hj2⟩ := List.any_eq_true.1 h1
        simp only [Bool.and_eq_true, decide_eq_true_eq] at hj2
        obtain ⟨o', ho', e, he, hb, hon⟩ := Region.waitsFor_spec hj2.2
        have : o' = ot := Option.some.inj (ho'.symm.trans hot)
        subst this
        have h2 := hall e he hb
        rw [hon, getD_both (inv.tail j hj2.1 (by have := List.mem_range.1 hj; omega))] at h2
        cases h2

theorem wpAnyE_lex3 {g : Nat} {Lq : (Tmp → AV) → Prop} (hT : ∀ i, i < n → ∀ listed, HeadInv md ops n listed → listed.getD i true = false → ∀ t, n ≤ t → t ∉ Region.ready md ops listed) :
    ∀ (l : List Oper) (k : Nat) (listed : Array Bool) (S : Tmp → AV), (∀ j, j < l.length → l[j]? = ops[k + j]?) → k + l.length = n → HeadInv md ops n listed →
    lexHead3 md ops n g l.length k listed = true → wpSem P ops w0 Lq l S →
    wpAnyE P md ops w0 n (fun listed' S' => (mid2B md ops n g listed' = true ∧ HeadInv md ops n listed') ∧ Lq S') l.length listed S
  | [], k, listed, S, _, _, inv, hB, h => ⟨⟨by simpa [lexHead3] using hB, inv⟩, h⟩
  | o :: l, k, listed, S, hl, hkl, inv, hB, h => by
    have h0 : ops[k]? = some o := by simpa using (hl 0 (by simp)).symm
    simp only [List.length_cons, lexHead3, Bool.and_eq_true] at hB
    obtain ⟨⟨hr, hf⟩, hB'⟩ := hB
    have hkn : k < n := by simp only [List.length_cons] at hkl; omega
    have hr' : k ∈ Region.ready md ops listed := by simpa using hr
    obtain ⟨x, hy, hK⟩ := h
    exact wpAnyE_first h0 hkn (hT k hkn) (fun listed' S' hL j hj => by
        have := hL.1.1
        simp only [mid2B, Bool.and_eq_true, decide_eq_true_eq] at this
        rw [this.1] at hj
        have : j = n := by simpa using hj
        omega) l.length listed S inv (Region.free_spec h0 hf) hr' hy
      (wpAnyE_lex3 hT l (k + 1) _ _ (fun j hj => by have := hl (j + 1) (by simp; omega); simpa [Nat.add_assoc, Nat.add_comm 1 j] using this) (by simp only [List.length_cons] at hkl; omega) (inv.set hr' hkn) hB' hK)

/-- the slots of an act, read off behind a walk -/
theorem endQ_of {K : Act → World → Prop} {m : Nat} {w' : World} {a1 : Act} {F : Facts} (hs1 : a1.tmps.size = m) (hd1 : a1.defers = ds) (hB1 : distinctB F = true) (hz : (F.all fun x => x.1 < m) = true) (hq : EndQ w' F (fun a' => K a' w') a1)
    {a' : Act} (hf : Fits (semOf a1 F) m ds a' w') : K a' w' := by
  refine EndQ_elim (a' := a') F hB1 hq (hf.1.trans hs1.symm) (hf.2.1.trans hd1.symm) (by rw [hs1]; exact hz) (fun t G hG => ?_) (fun t hn => ?_)
  · have hlt : t < m := by
      have := hz
      simp only [Facts.get, Option.map_eq_some_iff] at hG
      obtain ⟨x, hx, _⟩ := hG
      have h1 := List.find?_some hx
      have h2 := List.all_eq_true.1 hz x (List.mem_of_find?_eq_some hx)
      simp at h1 h2
      rw [← h1]; exact h2
    have := hf.2.2 t hlt
    rw [semOf_some hG] at this
    exact this
  · by_cases hlt : t < m
    · have := hf.2.2 t hlt
      rw [semOf_none hn] at this
      exact this
    · have h1 : a'.tmps.size ≤ t := by rw [hf.1]; exact Nat.le_of_not_lt hlt
      have h2 : a1.tmps.size ≤ t := by rw [hs1]; exact Nat.le_of_not_lt hlt
      simp [h1, h2]

/-- **A REGION THAT DRAWS ITS ORDER, IN THE MIDST OF IT ONE OPERATION THAT MAY TURN WHATEVER IT WILL**: n operations ahead of it, the rest behind it, which only read or make. -/
theorem wp_region_two {id : Nat} {Q : Exit → Act → World → Prop} {a : Act} {w : World} {l : List Oper} (n : Nat) (o : Oper) (hm : P.follows .mixedOrders = true) (hB : twoB l.toArray n = true) (ho : l.toArray[n]? = some o) (hd : dstsIn l.toArray a.tmps.size = true)
    (h : wpE P l.toArray w (fun a1 F => distinctB F = true ∧ (F.all fun x => x.1 < a.tmps.size) = true ∧ ∀ w', Ext w w' → EndQ w' F (fun a' => wpList P l.toArray (Exit.then (fun a2 w2 => a2.tmps.size = a.tmps.size ∧
      wpE P l.toArray w2 (fun a3 F3 => distinctB F3 = true ∧ (F3.all fun x => x.1 < a.tmps.size) = true ∧ ∀ w3, Ext w2 w3 → EndQ w3 F3 (fun a4 => Q .normal a4 w3) a3) (l.drop (n + 1)) a2 []) Q) [o] a' w') a1) (l.take n) a []) : (Code.region id l.toArray true).wp P Q a w := by
  simp only [twoB, Bool.and_eq_true, decide_eq_true_eq] at hB
  obtain ⟨⟨⟨hn, hsink⟩, htail⟩, hlex⟩ := hB
  have hn' : n < l.length := by simpa using hn
  have htl : (l.take n).length = n := by simp; omega
  have inv0 : HeadInv .any l.toArray n (Array.replicate l.toArray.size false) :=
    ⟨by simp, fun j oj _ hl => (by rw [getD_replicate_false] at hl; cases hl), fun t _ ht => getD_in (by simpa using ht) (getD_replicate_false _ _)⟩
  have hT : ∀ i, i < n → ∀ listed, HeadInv .any l.toArray n listed → listed.getD i true = false → ∀ t, n ≤ t → t ∉ Region.ready .any l.toArray listed := fun i hi listed inv hun t ht hr =>
    tail_waits3 hsink htail hn inv _ i rfl hi hun t ht hr
  have h1 := wpSem_of_wpE (ds := a.defers) (m := a.tmps.size) (Q' := fun S => ∀ a' w', Ext w w' → Fits S a.tmps.size a.defers a' w' → wpList P l.toArray (Exit.then (fun a2 w2 => a2.tmps.size = a.tmps.size ∧
      wpE P l.toArray w2 (fun a3 F3 => distinctB F3 = true ∧ (F3.all fun x => x.1 < a.tmps.size) = true ∧ ∀ w3, Ext w2 w3 → EndQ w3 F3 (fun a4 => Q .normal a4 w3) a3) (l.drop (n + 1)) a2 []) Q) [o] a' w')
    (fun a1 F hs1 hd1 hq a' w' hw' hf => endQ_of hs1 hd1 hq.1 hq.2.1 (hq.2.2 w' hw') hf) _ _ [] rfl rfl h
  have H := wpAnyE_lex3 (md := .any) hT (l.take n) 0 (Array.replicate l.toArray.size false) (semOf a []) (fun j hj => by
    have hj' : j < n := by rw [htl] at hj; exact hj
    simp [hj']) (by simpa using htl) inv0 (by rw [htl]; exact hlex) h1
  refine wp_region_any hm ?_
  have hw1 : Ext w { w with drawn := w.drawn + 1 } := Ext.drew w
  have hS0 : ∀ t, (semOf a [] t).Stable w := fun t => by rw [semOf_none (by rfl)]; exact AV.stable_k _ _
  have := wpAny_of_ext (w0 := w) (ds := a.defers) (Q' := Q) (g := (l.toArray.size - (n + 1)) + 1) hd (fun listed S hL a' w' hw' hf => by
    obtain ⟨⟨hmid, inv⟩, hq⟩ := hL
    simp only [mid2B, Bool.and_eq_true, decide_eq_true_eq] at hmid
    have hq := hq a' w' hw' hf
    refine ⟨fun h1 => (by rw [hmid.1] at h1; cases h1), fun i hi => ?_⟩
    have hin : i = n := by rw [hmid.1] at hi; simpa using hi
    subst hin
    -- the operation in the midst, then the rest
    have key : ∀ a2 w2, (a2.tmps.size = a.tmps.size ∧ wpE P l.toArray w2 (fun a3 F3 => distinctB F3 = true ∧ (F3.all fun x => x.1 < a.tmps.size) = true ∧ ∀ w3, Ext w2 w3 → EndQ w3 F3 (fun a4 => Q .normal a4 w3) a3) (l.drop (i + 1)) a2 []) →
        wpAny P .any l.toArray Q (l.toArray.size - (i + 1)) (listed.setIfInBounds i true) a2 w2 := by
      rintro a2 w2 ⟨hsz, h2⟩
      have hdl : (l.drop (i + 1)).length = l.toArray.size - (i + 1) := by simp
      have inv2 : HeadInv2 .any l.toArray l.toArray.size (listed.setIfInBounds i true) (listed.setIfInBounds i true) := by
        obtain ⟨_, oi, hoi, hall⟩ := mem_ready.1 hi
        refine ⟨by simp [inv.size], fun j oj hj hl e he hb => ?_, fun t h1 h2 => rfl⟩
        by_cases hij : i = j
        · subst hij
          have : oj = oi := Option.some.inj (hj.symm.trans hoi)
          subst this
          exact getD_set_true (hall e he hb)
        · rw [getD_set_ne false hij] at hl
          exact getD_set_true (inv.closed j oj hj hl e he hb)
      have h3 := wpSem_of_wpE (ds := a2.defers) (m := a.tmps.size) (Q' := fun S => ∀ a' w', Ext w2 w' → Fits S a.tmps.size a2.defers a' w' → Q .normal a' w')
        (fun a1 F hs1 hd1 hq a' w' hw' hf => endQ_of (K := fun a4 w3 => Q .normal a4 w3) hs1 hd1 hq.1 hq.2.1 (hq.2.2 w' hw') hf) _ _ [] hsz rfl h2
      have H2 := wpAnyE_lex2 (md := .any) (n := l.toArray.size) (L0 := listed.setIfInBounds i true) (ks := []) (by rfl) (fun j _ listed' _ _ t ht hr => by
        obtain ⟨_, ot, hot, _⟩ := mem_ready.1 hr
        have htlt := (Array.getElem?_eq_some_iff.1 hot).1
        omega) (l.drop (i + 1)) (i + 1) (listed.setIfInBounds i true) (semOf a2 []) (fun j _ => by simp) (by rw [hdl]; omega) inv2 (by rw [hdl]; exact hmid.2) h3
      have hS2 : ∀ t, (semOf a2 [] t).Stable w2 := fun t => by rw [semOf_none (by rfl)]; exact AV.stable_k _ _
      have := wpAny_of_ext (w0 := w2) (ds := a2.defers) (Q' := Q) (g := 0) (m := a.tmps.size) hd (fun listed S hL a' w' hw' hf => by
        refine ⟨by simpa [seqL] using hL.1, hL.2 a' w' hw' hf⟩) _ _ (semOf a2 []) hS2 H2 a2 w2 (Ext.refl _) ⟨hsz, rfl, fun t _ => by rw [semOf_none (by rfl)]; rfl⟩
      rw [hdl] at this
      exact this
    unfold wpOp
    simp only [ho]
    simp only [wpList] at hq
    split
    · rename_i hw
      simp only [hw, if_true] at hq
      rcases hq with hq | ⟨hq1, hq2⟩
      · refine .inl ?_
        unfold Oper.wp at hq ⊢
        generalize (execOp a'.eval o).run P w' = r at hq ⊢
        cases r with
        | ok nx w2 =>
          cases nx <;> simp only [Oper.upon] at hq ⊢
          case value u => exact key _ _ hq
          case skip => exact key _ _ hq
          case defer d => exact key _ _ hq
          case enter f args => exact Calls.mono hq fun e w'' he => by cases e <;> first | exact key _ _ he | exact he
          case row row args => exact Rows.mono hq fun u w'' he => key _ _ he
        | halt x w2 =>
          cases x <;> simp only [Oper.upon] at hq ⊢ <;> exact hq
      · exact .inr ⟨hq1, hq2⟩
    · rename_i hw
      simp only [hw] at hq
      exact key _ _ hq) _ _ (semOf a []) hS0 H a _ hw1 ⟨rfl, rfl, fun t _ => by rw [semOf_none (by rfl)]; rfl⟩
  rw [htl, show n + (l.toArray.size - (n + 1) + 1) = l.toArray.size by omega] at this
  exact this
end
end Go.Proofs.Ytpfjkjmimmklcaa

namespace Go.Proofs.Ytpfjkjmimmklcaa
open Go.RowKit

/-- what was there stays, but for the blocks in S -/
structure ExtS (S : Nat → Prop) (w w' : World) : Prop where
  os : w'.os = w.os
  tape : w'.tape = w.tape
  output : w'.output = w.output
  size : w.heap.size ≤ w'.heap.size
  block : ∀ k, k < w.heap.size → ¬ S k → w'.heap[k]? = w.heap[k]?
theorem ExtS.refl (S : Nat → Prop) (w : World) : ExtS S w w := ⟨rfl, rfl, rfl, Nat.le_refl _, fun _ _ _ => rfl⟩
theorem ExtS.trans {S S' : Nat → Prop} {a b c : World} (h : ExtS S a b) (k : ExtS S' b c) (hs : ∀ j, j < a.heap.size → S' j → S j) : ExtS S a c :=
  ⟨k.os.trans h.os, k.tape.trans h.tape, k.output.trans h.output, Nat.le_trans h.size k.size, fun j hj hn => (k.block j (Nat.lt_of_lt_of_le hj h.size) (fun e => hn (hs j hj e))).trans (h.block j hj hn)⟩
theorem ExtS.ext {S : Nat → Prop} {a b c : World} (h : ExtS S a b) (k : Ext b c) : ExtS S a c :=
  ⟨(Below.os k).trans h.os, (Below.tape k).trans h.tape, (Below.output k).trans h.output, Nat.le_trans h.size k.size, fun j hj hn => (k.block (Nat.lt_of_lt_of_le hj h.size)).trans (h.block j hj hn)⟩
theorem ExtS.grown {S : Nat → Prop} {a b c : World} {row : Option Nat} (h : ExtS S a b) (k : b.grownBy c row) (hs : ∀ j, row = some j → j < a.heap.size → S j) : ExtS S a c :=
  ⟨k.os.trans h.os, k.tape.trans h.tape, k.output.trans h.output, Nat.le_trans h.size k.size, fun j hj hn => (k.block j (Nat.lt_of_lt_of_le hj h.size) (fun e => hn (hs j e.symm hj))).trans (h.block j hj hn)⟩
theorem ExtS.set {S : Nat → Prop} {a b : World} (h : ExtS S a b) {p : Addr} (hp : S p.block) (u : Value) : ExtS S a (b.setCell p u) :=
  ⟨h.os, h.tape, h.output, by simpa using h.size, fun j hj hn => (Below.heap_setCell _ _ _ _ (fun e => hn (by rw [e]; exact hp))).trans (h.block j hj hn)⟩
theorem ExtS.blk {S : Nat → Prop} {w w' : World} (h : ExtS S w w') {g : Nat} {t : TypeId} {cs : Array Value} (hb : Blk w g t cs) (hg : ¬ S g) : Blk w' g t cs := (h.block g hb.lt hg).trans hb
theorem ExtS.toExt {S : Nat → Prop} {w0 w w' : World} (h0 : Ext w0 w) (h : ExtS S w w') (hS : ∀ j, S j → w0.heap.size ≤ j) : Ext w0 w' :=
  ⟨h.os.trans (Below.os h0), h.tape.trans (Below.tape h0), h.output.trans (Below.output h0), Nat.le_trans h0.size h.size, fun j hj => (h.block j (Nat.lt_of_lt_of_le hj h0.size) (fun e => by have := hS j e; omega)).trans (h0.block hj)⟩
theorem ExtS.own {S : Nat → Prop} {w w' : World} (h : ExtS S w w') {base : Nat} {e : TypeId} {s n : Nat} {v : Value} {xs : List Value} (ho : w.ownsRow base e s v n xs) (hS : ∀ k, v.ownBlock = some k → ¬ S k) : w'.ownsRow base e s v n xs := by
  refine ⟨ho.1, ?_⟩
  rcases ho.2 with h1 | ⟨g, cap, cur, rfl, h2, h3, h4⟩
  · exact .inl h1
  · refine .inr ⟨g, cap, cur, rfl, h2, ?_, h4⟩
    have hlt : g < w.heap.size := by
      rcases Nat.lt_or_ge g w.heap.size with hlt | hge
      · exact hlt
      · rw [Array.getElem?_eq_none hge] at h3; cases h3
    exact (h.block g hlt (hS g rfl)).trans h3

def intC (im : List Nat) : List Value := im.map fun (j : Nat) => Value.int .i64 (j : Int)
theorem intC_len (im : List Nat) : (intC im).length = im.length := by simp [intC]
theorem intC_snoc (im : List Nat) (j : Nat) : intC (im ++ [j]) = intC im ++ [.int .i64 (j : Int)] := by simp [intC]
theorem infoI2 : (Try.prog.info? 3).map (fun i => (i.zero, i.size, i.bytes)) = some (some (.int .i64 0), 1, 8) := by kernel_rfl
/-- the images so far: a variable's block gI, a row of the call's own -/
structure IAt (w : World) (gI base : Nat) (A : Option Addr) (c : Nat) (im : List Nat) : Prop where
  var : Blk w gI 100 #[.slice A im.length c]
  own : w.ownsRow base 3 1 (.slice A im.length c) im.length (intC im)
/-- the first of them -/
theorem own_take {w : World} {base : Nat} {e : TypeId} {n c : Nat} {A : Option Addr} {xs : List Value} (h : w.ownsRow base e 1 (.slice A n c) n xs) (k : Nat) (hk : k ≤ n) : w.ownsRow base e 1 (.slice A k c) k (xs.take k) := by
  rcases h.2 with ⟨h1, h2⟩ | ⟨g, cap, cur, h1, h2, h3, h4, h5, h6, h7⟩
  · injection h1 with e1 e2 e3
    subst e2
    obtain rfl : k = 0 := by omega
    refine ⟨by simp, .inl ⟨by rw [e1, e3], rfl⟩⟩
  · injection h1 with e1 e2 e3
    subst e1; subst e3
    refine ⟨by rw [List.length_take, h.1]; omega, .inr ⟨g, c, cur, rfl, h2, h3, by omega, h5, h6, ?_⟩⟩
    rw [← h7, List.take_take]
    congr 1
    omega

def Kb : Nat → Nat
  | 0 => 0
  | r + 1 => 8 * (8 + Kb r)
theorem Kb_le : ∀ r, r ≤ 6 → Kb r ≤ 4194304 := by
  intro r hr
  have : ∀ r : Fin 7, Kb r.1 ≤ 4194304 := by decide
  exact this ⟨r, by omega⟩

/-- the blocks of a laying -/
structure LSt (W0 w : World) (f t : Qy) (LF LT : QLoc) (gF gT gM gI gL g : Nat) : Prop where
  ext : Ext W0 w
  bF : Blk w gF 25 #[.string f.name, .slice LF.A LF.n LF.c, .slice LF.B LF.m LF.d]
  bT : Blk w gT 25 #[.string t.name, .slice LT.A LT.n LT.c, .slice LT.B LT.m LT.d]
  bM : Blk w gM 150 #[.map (some g)]
  bL : Blk w gL 151 #[.func (.func 93) #[] #[.pointer (some ⟨gF, 0, none⟩), .pointer (some ⟨gT, 0, none⟩), .pointer (some ⟨gM, 0, none⟩), .pointer (some ⟨gI, 0, none⟩), .pointer (some ⟨gL, 0, none⟩)]]
theorem LSt.go {W0 w w' : World} {f t : Qy} {LF LT : QLoc} {gF gT gM gI gL g : Nat} {S : Nat → Prop} (h : LSt W0 w f t LF LT gF gT gM gI gL g) (hw : ExtS S w w') (hS : ∀ j, S j → W0.heap.size ≤ j) (n1 : ¬ S gF) (n2 : ¬ S gT) (n3 : ¬ S gM) (n4 : ¬ S gL) : LSt W0 w' f t LF LT gF gT gM gI gL g :=
  ⟨hw.toExt h.ext hS, hw.blk h.bF n1, hw.blk h.bT n2, hw.blk h.bM n3, hw.blk h.bL n4⟩

/-- what a laying may turn: the map, the images' variable, the images' row -/
def SL (g gI : Nat) (A : Option Addr) : Nat → Prop := fun k => k = g ∨ k = gI ∨ ∃ a, A = some a ∧ k = a.block
theorem SL.own {g gI : Nat} {A : Option Addr} {n c : Nat} {k : Nat} (h : (Value.slice A n c).ownBlock = some k) : SL g gI A k := by
  cases A with
  | none => simp [Value.ownBlock] at h
  | some a => simp only [Value.ownBlock, Option.some.injEq] at h; exact .inr (.inr ⟨a, rfl, h.symm⟩)
theorem SL.not {w : World} {g gI g' k base m : Nat} {t : TypeId} {cs cs' : Array Value} {A : Option Addr} {n c : Nat} {σ : SMap} {xs : List Value} (hb : Blk w g' t cs) (hm : MapS w g k σ) (hi : Blk w gI 100 cs') (ho : w.ownsRow base 3 1 (.slice A n c) m xs)
    (h1 : t ≠ 100) (h2 : 3 ≠ t) : ¬ SL g gI A g' := by
  rintro (h | h | ⟨a, h, h3⟩)
  · exact hm.ne_blk hb h.symm
  · exact blk_ne hb hi h1 h
  · subst h
    exact own_ne_blk ho hb h2 (by simp [Value.ownBlock, h3])
theorem SL.new {W0 w : World} {g gI base m : Nat} {A : Option Addr} {n c : Nat} {xs : List Value} {e : TypeId} {s : Nat} (hg : W0.heap.size ≤ g) (hi : W0.heap.size ≤ gI) (hb : W0.heap.size ≤ base) (ho : w.ownsRow base e s (.slice A n c) m xs) : ∀ j, SL g gI A j → W0.heap.size ≤ j := by
  rintro j (h | h | ⟨a, h, h3⟩)
  · omega
  · omega
  · subst h
    have := (ho.lt a.block (by simp [Value.ownBlock])).1
    omega

/-- rows of different element types lie in different blocks -/
theorem own_own {w : World} {b1 b2 : Nat} {e1 e2 : TypeId} {s1 s2 n1 n2 : Nat} {v1 v2 : Value} {x1 x2 : List Value} (h1 : w.ownsRow b1 e1 s1 v1 n1 x1) (h2 : w.ownsRow b2 e2 s2 v2 n2 x2) (hne : e1 ≠ e2) {k : Nat} (hk : v1.ownBlock = some k) : v2.ownBlock ≠ some k := by
  rcases h1.2 with ⟨rfl, _⟩ | ⟨g', cap, cur, rfl, _, hh, _⟩
  · simp [Value.ownBlock] at hk
  · intro he
    have hk' : g' = k := by simpa [Value.ownBlock] using hk
    subst hk'
    exact own_ne_blk h2 (show Blk w g' e1 cur from hh) (Ne.symm hne) he.symm
/-- the row lies where it lay, or in a block that is new since w -/
def From (A : Option Addr) (w : World) (A' : Option Addr) : Prop := ∀ a, A' = some a → A = some ⟨a.block, 0, none⟩ ∨ w.heap.size ≤ a.block
theorem From.refl {w : World} {base : Nat} {e : TypeId} {n c m : Nat} {A : Option Addr} {xs : List Value} {s : Nat} (h : w.ownsRow base e s (.slice A n c) m xs) (w' : World) : From A w' A := fun a ha => by
  subst ha
  rcases h.2 with ⟨h1, _⟩ | ⟨g', cap, cur, h1, _⟩
  · injection h1 with h1; cases h1
  · injection h1 with h1
    injection h1 with h1
    subst h1
    exact .inl rfl
theorem From.trans {A A' A'' : Option Addr} {w w' : World} (h1 : From A w A') (hs : w.heap.size ≤ w'.heap.size) (h2 : From A' w' A'') : From A w A'' := fun a ha => by
  rcases h2 a ha with h | h
  · have := h1 ⟨a.block, 0, none⟩ h
    exact this
  · exact .inr (by omega)
theorem From.grown {A A' : Option Addr} {w : World} {base : Nat} {e : TypeId} {n c m n' c' s : Nat} {xs : List Value} (h : w.ownsRow base e s (.slice A n c) m xs) (hl : (Value.slice A' n' c').ownBlock = (Value.slice A n c).ownBlock ∨ (Value.slice A' n' c').ownBlock = some w.heap.size) : From A w A' := fun a ha => by
  subst ha
  rcases hl with hl | hl
  · cases A with
    | none => simp [Value.ownBlock] at hl
    | some a' =>
      simp only [Value.ownBlock, Option.some.injEq] at hl
      rcases h.2 with ⟨h1, _⟩ | ⟨g', cap, cur, h1, _⟩
      · injection h1 with h1; cases h1
      · injection h1 with h1
        injection h1 with h1
        subst h1
        simp only at hl
        rw [hl]; exact .inl rfl
  · simp only [Value.ownBlock, Option.some.injEq] at hl
    exact .inr (by omega)
theorem SL.from_ {g gI : Nat} {A A' : Option Addr} {w : World} (h : From A w A') {k : Nat} (hk : k < w.heap.size) (hs : SL g gI A' k) : SL g gI A k := by
  rcases hs with h1 | h1 | ⟨a, h1, h2⟩
  · exact .inl h1
  · exact .inr (.inl h1)
  · rcases h a h1 with h3 | h3
    · exact .inr (.inr ⟨_, h3, h2⟩)
    · omega

def LPost (_W0 w : World) (g gI base : Nat) (A : Option Addr) (r : Option (List Nat)) (k : Nat) (σ : Env) (im : List Nat) (en : Ending) (w' : World) : Prop :=
  ∃ A' c', en = .returned (.bool r.isSome) ∧ ExtS (SL g gI A) w w' ∧ From A w A' ∧ (match r with
    | some l => IAt w' gI base A' c' (im ++ l)
    | none => IAt w' gI base A' c' im ∧ MapT w' g k σ)

theorem uponGo_fr : ∀ (ts us : List Tm) (σ : Env), (uponGo σ ts us).2.1.length ≤ ts.length ∧ ∀ x ∈ (uponGo σ ts us).2.1, ∃ t ∈ ts, t.v = x
  | [], _, σ => by simp [uponGo]
  | _ :: _, [], σ => by simp [uponGo]
  | t :: ts, u :: us, σ => by
    simp only [uponGo]
    split
    · split
      · obtain ⟨h1, h2⟩ := uponGo_fr ts us σ
        exact ⟨by simp only [List.length_cons]; omega, fun x hx => let ⟨t', ht, e⟩ := h2 x hx; ⟨t', by simp [ht], e⟩⟩
      · simp
    · split
      · split
        · obtain ⟨h1, h2⟩ := uponGo_fr ts us σ
          exact ⟨by simp only [List.length_cons]; omega, fun x hx => let ⟨t', ht, e⟩ := h2 x hx; ⟨t', by simp [ht], e⟩⟩
        · simp
      · obtain ⟨h1, h2⟩ := uponGo_fr ts us (σ.put t.v u)
        refine ⟨by simp only [List.length_cons]; omega, fun x hx => ?_⟩
        simp only [List.mem_cons] at hx
        rcases hx with rfl | hx
        · exact ⟨t, by simp, rfl⟩
        · obtain ⟨t', ht, e⟩ := h2 x hx
          exact ⟨t', by simp [ht], e⟩
theorem uponP_fr (σ : Env) (a b : Atm) : (uponP σ a b).2.1.length ≤ a.terms.length ∧ ∀ x ∈ (uponP σ a b).2.1, ∃ t ∈ a.terms, t.v = x := by
  unfold uponP
  split
  · exact uponGo_fr _ _ _
  · simp
theorem dels_snoc (σ : Env) (fr : List ByteArray) (p : Nat) (x : ByteArray) (h : fr[p]? = some x) : σ.dels (fr.take (p + 1)) = (σ.dels (fr.take p)).del x := by
  rw [List.take_add_one, h]
  simp [Env.dels]
end Go.Proofs.Ytpfjkjmimmklcaa

namespace Go.Proofs.Ytpfjkjmimmklcaa
open Go.RowKit

set_option maxHeartbeats 8000000 in
set_option maxRecDepth 100000 in
theorem lay_any (W0 : World) (f t : Qy) (LF LT : QLoc) (gF gT gM gI gL g base : Nat) (hqf : QAt W0 LF f) (hqt : QAt W0 LT t) (hMf : smallM 1048576 f) (h6 : f.atoms.length ≤ 6) (h6t : t.atoms.length ≤ 6) (h5 : ∀ a ∈ f.atoms, a.terms.length ≤ 5)
    (hg : W0.heap.size ≤ g) (hgI : W0.heap.size ≤ gI) (hbase : W0.heap.size ≤ base) :
    ∀ (r i : Nat) (x : Int) (k : Nat) (σ : Env) (im : List Nat) (A : Option Addr) (c : Nat) (w : World), i + r = f.atoms.length → x = (i : Int) → im.length = i → LSt W0 w f t LF LT gF gT gM gI gL g → base ≤ w.heap.size → IAt w gI base A c im → MapT w g k σ → k + Kb r ≤ 1073741824 →
    Calls Try.prog 93 #[.int .i64 x, .pointer (some ⟨gF, 0, none⟩), .pointer (some ⟨gT, 0, none⟩), .pointer (some ⟨gM, 0, none⟩), .pointer (some ⟨gI, 0, none⟩), .pointer (some ⟨gL, 0, none⟩)] w (LPost W0 w g gI base A (layP t.atoms (f.atoms.drop i) σ) (k + Kb r) σ im) := by
  obtain ⟨ii, hii, hiz0, hiz1, hiz2⟩ := info_parts infoI2
  have hml : LF.m ≤ 6 := by have := hqf.atoms.len; omega
  have hnl : LT.m ≤ 6 := by have := hqt.atoms.len; omega
  have HQF := hide hqf; have HQT := hide hqt; have HMF := hide hMf; have H5 := hide h5
  have hfl := hide hqf.atoms.len; have htl := hide hqt.atoms.len
  clear hqf hqt hMf h5
  intro r
  induction r with
  | zero =>
    intro i x k σ im A c w hir hx him hL hbw hI hm hkb
    have f2 : w.cell? ⟨gF, 2, none⟩ = some (.slice LF.B LF.m LF.d) := hL.bF.cell 2
    have hfin : LF.m = i := by have := hfl.out; omega
    have hr : layP t.atoms (f.atoms.drop i) σ = some [] := by rw [List.drop_of_length_le (by omega)]; rfl
    rw [hr]
    have HL := hide hL; have HI := hide hI; have HM := hide hm
    obtain ⟨fA, fn, fc, fB, fm, fd⟩ := LF
    dsimp only at *
    subst hfin
    subst hx
    clear hr hI hm hL hir him hkb
    go_enter Try.func93, Try.ntmps93
    go_wp2_with fail
    go_ret
    refine ⟨A, c, rfl, ExtS.refl _ _, From.refl HI.out.own _, ?_⟩
    · show IAt _ _ _ _ _ (im ++ [])
      rw [List.append_nil]; exact HI.out
  | succ r ih =>
    intro i x k σ im A c w hir hx him hL hbw hI hm hkb
    have hil : i < LF.m := by have := hfl.out; omega
    have hal : i < f.atoms.length := by omega
    obtain ⟨fA, fn, fc, fB, fm, fd⟩ := LF
    obtain ⟨tA, tn, tc, tB, tm, td⟩ := LT
    dsimp only at *
    obtain ⟨b, off, a, B1, m1, d1, rfl, hxa, hb1, C0, C1, hT⟩ := HQF.out.atoms.at_ hil
    have hm1 : m1 ≤ 5 := by have := H5.out a (List.mem_of_getElem? hxa); have := hT.len; omega
    have hdrop : f.atoms.drop i = a :: f.atoms.drop (i + 1) := by
      obtain ⟨h1, e1⟩ := List.getElem?_eq_some_iff.1 hxa
      rw [List.drop_eq_getElem_cons h1, e1]
    rw [hdrop, layP_cons]
    have HSA := hide (HMF.out.atoms a (List.mem_of_getElem? hxa))
    have ih' := hide (fun σ' im' A' c' w' k' => ih (i + 1) ((i : Int) + 1) k' σ' im' A' c' w' (by omega) (by omega))
    have hkk : k + 8 * (8 + Kb r) ≤ 1073741824 := by simpa [Kb] using hkb
    have him2 := hide him
    have HC0 := hide C0; have HC1 := hide C1; have HT := hide hT
    have HL := hide hL; have HI := hide hI; have HM := hide hm
    have f2 : w.cell? ⟨gF, 2, none⟩ = some (.slice (some ⟨b, off, none⟩) fm fd) := hL.bF.cell 2
    have t2 : w.cell? ⟨gT, 2, none⟩ = some (.slice tB tm td) := hL.bT.cell 2
    have hne : ((i : Int) == (fm : Int)) = false := by simp; omega
    have hnS : ∀ (w' : World) (A' : Option Addr) (c' k' : Nat) (σ' : Env), LSt W0 w' f t ⟨fA, fn, fc, some ⟨b, off, none⟩, fm, fd⟩ ⟨tA, tn, tc, tB, tm, td⟩ gF gT gM gI gL g → IAt w' gI base A' c' im → MapT w' g k' σ' → ¬ SL g gI A' gF ∧ ¬ SL g gI A' gT ∧ ¬ SL g gI A' gM ∧ ¬ SL g gI A' gL := fun w' A' c' k' σ' h1 h2 h3 =>
      ⟨SL.not h1.bF h3 h2.var h2.own (by decide) (by decide), SL.not h1.bT h3 h2.var h2.own (by decide) (by decide), SL.not h1.bM h3 h2.var h2.own (by decide) (by decide), SL.not h1.bL h3 h2.var h2.own (by decide) (by decide)⟩
    have HnS := hide hnS
    subst hx
    generalize hrest : f.atoms.drop (i + 1) = rest at *
    clear hL hI hm him ih hxa hT C0 C1 hdrop hrest hnS hkb
    go_enter Try.func93, Try.ntmps93
    go_wp2_with fail
    go_loopw [22] (fun s22 w' => ∃ (j : Nat) (A' : Option Addr) (c' : Nat), j ≤ tm ∧ s22 = .int .i64 j ∧ Hid (layFrom t.atoms a rest σ 0 = layFrom t.atoms a rest σ j) ∧ Hid (LSt W0 w' f t ⟨fA, fn, fc, some ⟨b, off, none⟩, fm, fd⟩ ⟨tA, tn, tc, tB, tm, td⟩ gF gT gM gI gL g) ∧ Hid (IAt w' gI base A' c' im) ∧ Hid (MapT w' g (k + j * (8 + Kb r)) σ) ∧ Hid (ExtS (SL g gI A) w w') ∧ Hid (From A w A'))
      (fun s22 _ => tm - (intOf s22).toNat)
    case atStart =>
      exact ⟨0, A, c, by omega, rfl, rfl, HL.out, HI.out, by rw [Nat.zero_mul, Nat.add_zero]; exact HM.out, ExtS.refl _ _, From.refl HI.out.own _⟩
    case round =>
      obtain ⟨j, A', c', hjm, rfl, hlf, hL, hI, hM, hX, hA⟩ := hrel
      by_cases hj : j < tm
      · obtain ⟨b2, off2, tb, B2, m2, d2, rfl, hxb, hb2, E0, E1, hT2⟩ := HQT.out.atoms.at_ hj
        have hstep := hide (layFrom_step (a := a) (rest := rest) (σ := σ) hxb)
        have hback := hide (uponP_back σ a tb)
        have hfr := uponP_fr σ a tb
        have hterm := hide HT.out.len
        have e0 := hL.out.ext.cell E0
        have e1 := hL.out.ext.cell E1
        have c0 := hL.out.ext.cell HC0.out
        have c1 := hL.out.ext.cell HC1.out
        have f2 : wr.cell? ⟨gF, 2, none⟩ = some (.slice (some ⟨b, off, none⟩) fm fd) := hL.out.bF.cell 2
        have mp : wr.cell? ⟨gM, 0, none⟩ = some (.map (some g)) := hL.out.bM.cell 0
        have HT2 := hide hT2
        clear hxb hT2 E0 E1
        have HUP := hide (fun w1 (h1 : Ext wr w1) => upon_any a tb σ g (k + j * (8 + Kb r)) B1 B2 m1 m2 d1 d2 w1 (HT.out.ext RT.stab (hL.out.ext.trans h1)) (HT2.out.ext RT.stab (hL.out.ext.trans h1)) (MapS.ext hM.out h1) HSA.out (by
          have : j * (8 + Kb r) ≤ 8 * (8 + Kb r) := Nat.mul_le_mul_right _ (by omega)
          omega))
        go_wp2_with fail
        have W1e := Ext.alloc wr (.cells #[.string tb.rel, .slice B2 m2 d2] 40)
        have x0 := cell_ext (CellsAt.new wr [.string tb.rel, .slice B2 m2 d2] 40 (0, 0) 0 _ rfl)
        have x1 := cell_ext (CellsAt.new wr [.string tb.rel, .slice B2 m2 d2] 40 (0, 0) 1 _ rfl)
        have f2 := cell_ext (W1e.cell f2)
        have mp := cell_ext (W1e.cell mp)
        have c0 := cell_ext (W1e.cell c0)
        have c1 := cell_ext (W1e.cell c1)
        have HW1e := hide W1e; clear W1e
        refine wp_region_two 7 _ (by kernel_rfl) (by kernel_rfl) rfl (by kernel_rfl) ?_
        iterate 7
          refine wpE_k (by kernel_rfl) (by kernel_rfl) ?_
          apply Exists.intro
          refine ⟨fun w1 hw1 => ?_, fun K hK => ?_⟩
          · go_simp; first | done | rfl
          go_simp; refine hK _ _ ?_; clear hK K
        refine wpE_nil ⟨rfl, by kernel_rfl, fun w1 hw1 => ?_⟩
        simp only [EndQ]
        clear x0 x1 f2 mp c0 c1 e0 e1
        have HX1 := hide (HW1e.out.trans hw1); clear hw1
        go_wp2_with ((with_reducible refine (HUP.out w1 HX1.out).mono ?_); intro e w2 hR; obtain ⟨A2, c2, rfl, hO2, hm2, hx2⟩ := hR)
        have HO2 := hide hO2; have HM2 := hide hm2; have HX2 := hide hx2
        clear hO2 hm2 hx2 HUP
        generalize uponP σ a tb = u at *
        obtain ⟨σ2, fr, ok⟩ := u
        dsimp only at *
        have HFR := hide hfr.2
        have hfl2 : fr.length ≤ 5 := by have := hterm.out; have := hfr.1; omega
        clear hfr
        refine ⟨rfl, ?_⟩
        simp only [List.drop]
        iterate 5
          refine wpE_k (by kernel_rfl) (by kernel_rfl) ?_
          apply Exists.intro
          refine ⟨fun w1 hw1 => ?_, fun K hK => ?_⟩
          · go_simp; first | done | rfl
          go_simp; refine hK _ _ ?_; clear hK K
        refine wpE_nil ⟨rfl, by kernel_rfl, fun wq hwq => ?_⟩
        simp only [EndQ]
        have hkj : j * (8 + Kb r) + (8 + Kb r) ≤ 8 * (8 + Kb r) := by
          have : (j + 1) * (8 + Kb r) ≤ 8 * (8 + Kb r) := Nat.mul_le_mul_right _ (by omega)
          rw [Nat.add_mul, Nat.one_mul] at this; exact this
        have xq : ExtS (SL g gI A') wr wq := (((ExtS.refl _ _).ext HX1.out).grown HX2.out (fun k hk _ => by cases hk; exact .inl rfl)).ext hwq
        have nS := HnS.out wr A' c' _ σ hL.out hI.out hM.out
        have Lq := hide (hL.out.go xq (SL.new hg hgI hbase hI.out.own) nS.1 nS.2.1 nS.2.2.1 nS.2.2.2)
        have hgne : gI ≠ g := fun e => hM.out.ne_blk hI.out.var e.symm
        have Iq := hide (show IAt wq gI base A' c' im from ⟨((HX2.out).blk (hI.out.var.ext HX1.out) hgne).ext hwq, own_ext (HX2.out.own (own_ext hI.out.own HX1.out) ((MapS.ext hM.out HX1.out).ne_own (own_ext hI.out.own HX1.out))) hwq⟩)
        have Mq := hide (show MapT wq g (k + j * (8 + Kb r) + m1) σ2 from MapS.ext HM2.out hwq)
        have Oq := hide (HO2.out.ext hwq)
        have Xq := hide (show ExtS (SL g gI A) w wq from hX.out.trans xq (fun k hk hs => SL.from_ hA.out hk hs))
        have Sq := hide xq.size
        clear xq nS hwq
        cases ok with
        | false =>
          have Hfin := hide (show layFrom t.atoms a rest σ j = layFrom t.atoms a rest σ (j + 1) by rw [hstep.out]; rfl)
          obtain ⟨wz, Hwz⟩ : ∃ wz, Hid (wz = wq) := ⟨_, rfl⟩
          obtain rfl := Hwz.out
          obtain ⟨kz, Hkz⟩ : ∃ kz, Hid (kz = k + j * (8 + Kb r) + m1) := ⟨_, rfl⟩
          have hkz : kz ≤ k + j * (8 + Kb r) + (8 + Kb r) := by rw [Hkz.out]; omega
          rw [← Hkz.out] at Mq
          have Lz := Lq; have Iz := Iq; have Mz := Mq; have Xz := Xq; have Az := hA
          have Oz := hide (show LAt RS 1 wz A2 fr.length fr from Oq.out.lat)
          obtain ⟨A5, HA5⟩ : ∃ A5, Hid (A5 = A') := ⟨_, rfl⟩
          obtain rfl := HA5.out
          obtain ⟨c5, Hc5⟩ : ∃ c5, Hid (c5 = c') := ⟨_, rfl⟩
          obtain rfl := Hc5.out
          go_wp2_with fail
          go_loopw [13, 52] (fun _ s52 w' => ∃ p : Nat, p ≤ fr.length ∧ s52 = .int .i64 p ∧ Hid (MapT w' g kz (σ2.dels (fr.take p))) ∧ Hid (ExtM g wz w')) (fun _ s52 _ => fr.length - (intOf s52).toNat)
          case atStart => exact ⟨0, by omega, rfl, Mz.out, ExtM.refl _ _⟩
          case round =>
            obtain ⟨p, hpn, rfl, hMp, hXp⟩ := hrel
            have hnrz := MapS.noRow Mz.out
            by_cases hp : p < fr.length
            · obtain ⟨b3, off3, v, rfl, hxv, hb3, v0⟩ := (hXp.out.strs hnrz Oz.out).str hp
              have hds := hide (dels_snoc σ2 fr p v hxv)
              have hvs : v.size ≤ maxLen := by
                obtain ⟨t', ht', e⟩ := HFR.out v (List.mem_of_getElem? hxv)
                have := (HSA.out.terms t' ht').1
                rw [e] at this
                unfold maxLen; omega
              have mz : wr.cell? ⟨gM, 0, none⟩ = some (.map (some g)) := (hXp.out.blk Lz.out.bM (fun e => Mz.out.ne_blk Lz.out.bM e.symm)).cell 0
              clear hxv
              go_wp2_with (at_delete; refine wpList_smap_del rfl (.tmp 56) (.tmp 57) _ 60 rfl Try.underlying150 g _ (valS (σ2.dels (fr.take p))) rfl hMp.out v rfl hvs ?_; intro w6 hm6 ht6)
              go_roundw
              case rel => exact ⟨p + 1, by omega, by go_num, by rw [Hid, hds.out, MapT, valS_del]; exact hm6.out, hXp.out.trans (.turned ht6.out)⟩
              case measure => simp [intOf]; omega
            · have efr : fr.take p = fr := List.take_of_length_le (by omega)
              have hM9 := hide (show MapT wr g (k + (j + 1) * (8 + Kb r)) σ by
                have := hMp.out
                rw [efr, hback.out] at this
                exact MapS.mono this (by rw [Nat.add_mul, Nat.one_mul]; omega))
              have nSz := HnS.out wz A5 c5 kz σ2 Lz.out Iz.out Mz.out
              have xg : ExtS (fun k => k = g) wz wr := (ExtS.refl _ _).grown hXp.out (fun k hk _ => by cases hk; rfl)
              have hL9 := hide (Lz.out.go xg (fun j hj => by omega) (fun e => nSz.1 (.inl e)) (fun e => nSz.2.1 (.inl e)) (fun e => nSz.2.2.1 (.inl e)) (fun e => nSz.2.2.2 (.inl e)))
              have hI9 := hide (show IAt wr gI base A5 c5 im from ⟨hXp.out.blk Iz.out.var hgne, hXp.out.own Iz.out.own (Mz.out.ne_own Iz.out.own)⟩)
              have hX9 := hide (show ExtS (SL g gI A) w wr from Xz.out.trans xg (fun k _ hk => .inl hk))
              go_wp2_with fail
              go_roundw
              case rel => exact ⟨j + 1, A5, c5, by omega, by go_num, hlf.out.trans Hfin.out, hL9.out, hI9.out, hM9.out, hX9.out, Az.out⟩
              case measure => simp [intOf]; omega
        | true =>
          have hgl : gL ≠ gI := blk_ne Lq.out.bL Iq.out.var (by decide)
          have i0 : wq.cell? ⟨gI, 0, none⟩ = some (.slice A' im.length c') := Iq.out.var.cell 0
          have l0 : wq.cell? ⟨gL, 0, none⟩ = some (.func (.func 93) #[] #[.pointer (some ⟨gF, 0, none⟩), .pointer (some ⟨gT, 0, none⟩), .pointer (some ⟨gM, 0, none⟩), .pointer (some ⟨gI, 0, none⟩), .pointer (some ⟨gL, 0, none⟩)]) := Lq.out.bL.cell 0
          have hbq : base ≤ wq.heap.size := by have := Xq.out.size; omega
          have hi6 : im.length + 1 ≤ 7 := by have := him2.out; omega
          have hgIq : gI < wq.heap.size := Iq.out.var.lt
          have hgLq : gL < wq.heap.size := Lq.out.bL.lt
          go_wp2_with (at_builtin
                       refine wpList_append_m rfl (.tmp 39) (.tmp 41) _ rfl 3 ii _ 1 8 Try.underlying100 hii hiz0 hiz1 hiz2 rfl (by omega) base (by simp; omega) (.slice A' im.length c') im.length (intC im) rfl (Iq.out.own.alloc _) _ 1 1 [.int .i64 (j : Int)] rfl (sl_lit wq [.int .i64 (j : Int)] 3 1 1 rfl) (fun v h => by obtain rfl := List.mem_singleton.1 h; rfl) (by unfold maxLen; omega) (by omega) ?_
                       intro A8 c8 w8 own8 G8 L8
                       have ow := Iq.out.own.alloc (.cells #[.int .i64 (j : Int)] 3)
                       have vI := (Iq.out.var.ext (Ext.alloc wq (.cells #[.int .i64 (j : Int)] 3))).grown G8.out (own_ne_blk ow (Iq.out.var.ext (Ext.alloc wq (.cells #[.int .i64 (j : Int)] 3))) (by decide))
                       have vL := (Lq.out.bL.ext (Ext.alloc wq (.cells #[.int .i64 (j : Int)] 3))).grown G8.out (own_ne_blk ow (Lq.out.bL.ext (Ext.alloc wq (.cells #[.int .i64 (j : Int)] 3))) (by decide))
                       have i8 : w8.cell? ⟨gI, 0, none⟩ = some (.slice A' im.length c') := vI.cell 0
                       have f8 := vI.frozen 0
                       have l8 : w8.cell? ⟨gL, 0, none⟩ = some (.func (.func 93) #[] #[.pointer (some ⟨gF, 0, none⟩), .pointer (some ⟨gT, 0, none⟩), .pointer (some ⟨gM, 0, none⟩), .pointer (some ⟨gI, 0, none⟩), .pointer (some ⟨gL, 0, none⟩)]) := vL.cell 0
                       have OW := hide ow; have VI := hide vI
                       clear ow vI vL)
          have Xa : ExtS (SL g gI A') wq (w8.setCell ⟨gI, 0, none⟩ (.slice A8 (im.length + 1) c8)) := ExtS.set (S := SL g gI A') (((ExtS.refl (SL g gI A') wq).ext (Ext.alloc wq _)).grown G8.out (fun k hk _ => SL.own hk)) (p := ⟨gI, 0, none⟩) (.inr (.inl rfl)) _
          have nSq := HnS.out wq A' c' _ σ2 Lq.out Iq.out Mq.out
          have L9 := hide (Lq.out.go Xa (SL.new hg hgI hbase Iq.out.own) nSq.1 nSq.2.1 nSq.2.2.1 nSq.2.2.2)
          have I9 := hide (show IAt (w8.setCell ⟨gI, 0, none⟩ (.slice A8 (im.length + 1) c8)) gI base A8 c8 (im ++ [j]) from by
            refine ⟨?_, ?_⟩
            · have := VI.out.set_ 0 (.slice A8 (im.length + 1) c8)
              simpa using this
            · have := own_set own8.out VI.out (by decide) 0 (.slice A8 (im.length + 1) c8)
              rw [intC_snoc, List.length_append]
              exact this)
          have M9 := hide (show MapT (w8.setCell ⟨gI, 0, none⟩ (.slice A8 (im.length + 1) c8)) g (k + j * (8 + Kb r) + m1) σ2 from MapS.setCell (MapS.grown (MapS.ext Mq.out (Ext.alloc wq _)) OW.out G8.out) (p := ⟨gI, 0, none⟩) (Ne.symm hgne) _)
          have F8 := hide ((From.refl Iq.out.own wq).trans (Ext.alloc wq _).size (From.grown OW.out L8.out))
          have XA := hide Xa
          have hb9 : base ≤ (w8.setCell ⟨gI, 0, none⟩ (.slice A8 (im.length + 1) c8)).heap.size := by have := Xa.size; omega
          clear Xa nSq i8 f8 l8 i0 l0
          refine (ih'.out σ2 (im ++ [j]) A8 c8 _ (k + j * (8 + Kb r) + m1) (by rw [List.length_append, him2.out]; rfl) L9.out hb9 I9.out M9.out (by omega)).mono ?_
          generalize hw9 : w8.setCell ⟨gI, 0, none⟩ (.slice A8 (im.length + 1) c8) = w9 at *
          clear hw9
          rintro e w10 ⟨A9, c9, rfl, X10, F10, P10⟩
          have HX10 := hide (show ExtS (SL g gI A) w w10 from (Xq.out.trans XA.out (fun k hk hs => SL.from_ hA.out hk hs)).trans X10 (fun k hk hs => SL.from_ (hA.out.trans Xq.out.size F8.out) hk hs))
          have HF10 := hide (show From A w A9 from (hA.out.trans Xq.out.size F8.out).trans (Nat.le_trans Xq.out.size XA.out.size) F10)
          cases hr : layP t.atoms rest σ2 with
          | some l =>
            have Hfin := hide (show layFrom t.atoms a rest σ 0 = some (j :: l) by rw [hlf.out, hstep.out, hr]; rfl)
            rw [hr] at P10
            have HP := hide P10
            clear P10 X10 F10 hr
            go_wp2_with fail
            go_ret
            rw [Hfin.out]
            refine ⟨A9, c9, rfl, HX10.out, HF10.out, ?_⟩
            have := HP.out
            simp only [List.append_assoc, List.cons_append, List.nil_append] at this
            exact this
          | none =>
            have Hfin := hide (show layFrom t.atoms a rest σ j = layFrom t.atoms a rest σ (j + 1) by rw [hstep.out, hr]; rfl)
            rw [hr] at P10
            obtain ⟨P10, M10⟩ := P10
            have nS9 := HnS.out wq A' c' _ σ2 Lq.out Iq.out Mq.out
            have n9 : ¬ SL g gI A8 gF ∧ ¬ SL g gI A8 gT ∧ ¬ SL g gI A8 gM ∧ ¬ SL g gI A8 gL :=
              ⟨SL.not L9.out.bF M9.out I9.out.var I9.out.own (by decide) (by decide), SL.not L9.out.bT M9.out I9.out.var I9.out.own (by decide) (by decide), SL.not L9.out.bM M9.out I9.out.var I9.out.own (by decide) (by decide), SL.not L9.out.bL M9.out I9.out.var I9.out.own (by decide) (by decide)⟩
            have L10 := hide (L9.out.go X10 (SL.new hg hgI hbase I9.out.own) n9.1 n9.2.1 n9.2.2.1 n9.2.2.2)
            have HP10 := hide P10; have HM10 := hide M10
            have HO9 := hide (show OwnS w1 w9 A2 fr.length c2 fr from ⟨Oq.out.1, XA.out.own Oq.out.2 (fun k hk hs => by
              rcases hs with h | h | ⟨ad, h, h2⟩
              · exact Mq.out.ne_own Oq.out.2 (by rw [hk, h])
              · exact own_ne_blk Oq.out.2 Iq.out.var (by decide) (by rw [hk, h])
              · subst h
                exact own_own Oq.out.2 Iq.out.own (by decide) hk (by simp [Value.ownBlock, h2]))⟩)
            have HO10 := hide (show OwnS w1 w10 A2 fr.length c2 fr from ⟨HO9.out.1, X10.own HO9.out.2 (fun k hk hs => by
              rcases hs with h | h | ⟨ad, h, h2⟩
              · exact M9.out.ne_own HO9.out.2 (by rw [hk, h])
              · exact own_ne_blk HO9.out.2 I9.out.var (by decide) (by rw [hk, h])
              · subst h
                exact own_own HO9.out.2 I9.out.own (by decide) hk (by simp [Value.ownBlock, h2]))⟩)
            obtain ⟨ga, rfl⟩ : ∃ ga, A9 = some ⟨ga, 0, none⟩ := by
              rcases P10.own.2 with ⟨h1, h2⟩ | ⟨g', cap, cur, h1, _⟩
              · simp at h2
              · injection h1 with h1
                exact ⟨g', h1⟩
            have hc9 : im.length + 1 ≤ c9 := by
              rcases P10.own.2 with ⟨h1, h2⟩ | ⟨g', cap, cur, h1, _, _, hle, _⟩
              · simp at h2
              · injection h1 with _ _ h3
                subst h3
                simpa using hle
            have i10 : w10.cell? ⟨gI, 0, none⟩ = some (.slice (some ⟨ga, 0, none⟩) (im.length + 1) c9) := by
              have := P10.var.cell 0
              simpa using this
            have f10 := P10.var.frozen 0
            have hio : i ≤ im.length + 1 := by have := him2.out; omega
            have hic : i ≤ c9 := by have := him2.out; omega
            have hlen := him2.out
            clear P10 M10 X10 F10 nS9 n9 hr hlen
            go_wp2_with fail
            have Iz := hide (show IAt (w10.setCell ⟨gI, 0, none⟩ (.slice (some ⟨ga, 0, none⟩) i c9)) gI base (some ⟨ga, 0, none⟩) c9 im from by
              have hv := HP10.out.var.set_ 0 (.slice (some ⟨ga, 0, none⟩) i c9)
              refine ⟨?_, ?_⟩
              · rw [him2.out]; simpa using hv
              · have h1 := own_take HP10.out.own i (by rw [List.length_append, him2.out]; simp)
                have h2 : (intC (im ++ [j])).take i = intC im := by rw [intC_snoc, ← him2.out, ← intC_len im]; simp
                rw [h2] at h1
                rw [him2.out]
                exact own_set h1 HP10.out.var (by decide) 0 _)
            have Mz := hide (show MapT (w10.setCell ⟨gI, 0, none⟩ (.slice (some ⟨ga, 0, none⟩) i c9)) g (k + j * (8 + Kb r) + m1 + Kb r) σ2 from MapS.setCell HM10.out (p := ⟨gI, 0, none⟩) (Ne.symm hgne) _)
            have x11 : ExtS (fun k => k = gI) w10 (w10.setCell ⟨gI, 0, none⟩ (.slice (some ⟨ga, 0, none⟩) i c9)) := ExtS.set (S := fun k => k = gI) (ExtS.refl _ w10) (p := ⟨gI, 0, none⟩) rfl _
            have Lz := hide (L10.out.go x11 (fun j hj => by omega) (blk_ne L10.out.bF HP10.out.var (by decide)) (blk_ne L10.out.bT HP10.out.var (by decide)) (blk_ne L10.out.bM HP10.out.var (by decide)) (blk_ne L10.out.bL HP10.out.var (by decide)))
            have Xz := hide (HX10.out.set (p := ⟨gI, 0, none⟩) (.inr (.inl rfl)) (.slice (some ⟨ga, 0, none⟩) i c9))
            have Az := HF10
            have Oz := hide (show LAt RS 1 (w10.setCell ⟨gI, 0, none⟩ (.slice (some ⟨ga, 0, none⟩) i c9)) A2 fr.length fr from (show OwnS w1 _ A2 fr.length c2 fr from ⟨HO10.out.1, own_set HO10.out.2 HP10.out.var (by decide) 0 _⟩).lat)
            clear x11 i10 f10
            generalize hwz : w10.setCell ⟨gI, 0, none⟩ (.slice (some ⟨ga, 0, none⟩) i c9) = wz at *
            obtain ⟨kz, Hkz⟩ : ∃ kz, Hid (kz = k + j * (8 + Kb r) + m1 + Kb r) := ⟨_, rfl⟩
            have hkz : kz ≤ k + j * (8 + Kb r) + (8 + Kb r) := by rw [Hkz.out]; omega
            rw [← Hkz.out] at Mz
            obtain ⟨A5, HA5⟩ : ∃ A5 : Option Addr, Hid (A5 = some ⟨ga, 0, none⟩) := ⟨_, rfl⟩
            rw [← HA5.out] at Iz Az
            obtain ⟨c5, Hc5⟩ : ∃ c5, Hid (c5 = c9) := ⟨_, rfl⟩
            rw [← Hc5.out] at Iz
            clear hwz
            go_loopw [13, 52] (fun _ s52 w' => ∃ p : Nat, p ≤ fr.length ∧ s52 = .int .i64 p ∧ Hid (MapT w' g kz (σ2.dels (fr.take p))) ∧ Hid (ExtM g wz w')) (fun _ s52 _ => fr.length - (intOf s52).toNat)
            case atStart => exact ⟨0, by omega, rfl, Mz.out, ExtM.refl _ _⟩
            case round =>
              obtain ⟨p, hpn, rfl, hMp, hXp⟩ := hrel
              have hnrz := MapS.noRow Mz.out
              by_cases hp : p < fr.length
              · obtain ⟨b3, off3, v, rfl, hxv, hb3, v0⟩ := (hXp.out.strs hnrz Oz.out).str hp
                have hds := hide (dels_snoc σ2 fr p v hxv)
                have hvs : v.size ≤ maxLen := by
                  obtain ⟨t', ht', e⟩ := HFR.out v (List.mem_of_getElem? hxv)
                  have := (HSA.out.terms t' ht').1
                  rw [e] at this
                  unfold maxLen; omega
                have mz : wr.cell? ⟨gM, 0, none⟩ = some (.map (some g)) := (hXp.out.blk Lz.out.bM (fun e => Mz.out.ne_blk Lz.out.bM e.symm)).cell 0
                clear hxv
                go_wp2_with (at_delete; refine wpList_smap_del rfl (.tmp 56) (.tmp 57) _ 60 rfl Try.underlying150 g _ (valS (σ2.dels (fr.take p))) rfl hMp.out v rfl hvs ?_; intro w6 hm6 ht6)
                go_roundw
                case rel => exact ⟨p + 1, by omega, by go_num, by rw [Hid, hds.out, MapT, valS_del]; exact hm6.out, hXp.out.trans (.turned ht6.out)⟩
                case measure => simp [intOf]; omega
              · have efr : fr.take p = fr := List.take_of_length_le (by omega)
                have hM9 := hide (show MapT wr g (k + (j + 1) * (8 + Kb r)) σ by
                  have := hMp.out
                  rw [efr, hback.out] at this
                  exact MapS.mono this (by rw [Nat.add_mul, Nat.one_mul]; omega))
                have nSz := HnS.out wz A5 c5 kz σ2 Lz.out Iz.out Mz.out
                have xg : ExtS (fun k => k = g) wz wr := (ExtS.refl _ _).grown hXp.out (fun k hk _ => by cases hk; rfl)
                have hL9 := hide (Lz.out.go xg (fun j hj => by omega) (fun e => nSz.1 (.inl e)) (fun e => nSz.2.1 (.inl e)) (fun e => nSz.2.2.1 (.inl e)) (fun e => nSz.2.2.2 (.inl e)))
                have hI9 := hide (show IAt wr gI base A5 c5 im from ⟨hXp.out.blk Iz.out.var hgne, hXp.out.own Iz.out.own (Mz.out.ne_own Iz.out.own)⟩)
                have hX9 := hide (show ExtS (SL g gI A) w wr from Xz.out.trans xg (fun k _ hk => .inl hk))
                go_wp2_with fail
                go_roundw
                case rel => exact ⟨j + 1, A5, c5, by omega, by go_num, hlf.out.trans Hfin.out, hL9.out, hI9.out, hM9.out, hX9.out, Az.out⟩
                case measure => simp [intOf]; omega
      · have hend := hide (show layFrom t.atoms a rest σ j = none from layFrom_end (by have := htl.out; omega))
        go_wp2_with fail
        go_ret
        have e := hlf.out.trans hend.out
        rw [e]
        refine ⟨A', c', rfl, hX.out, hA.out, hI.out, MapS.mono hM.out ?_⟩
        have : j * (8 + Kb r) ≤ 8 * (8 + Kb r) := Nat.mul_le_mul_right _ (by omega)
        simp only [Kb]; omega
end Go.Proofs.Ytpfjkjmimmklcaa
