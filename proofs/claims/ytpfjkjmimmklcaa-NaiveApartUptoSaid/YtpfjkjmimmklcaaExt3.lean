/-
  A region that draws its order and makes two variables: whatever the order, they are two.
-/
import Derived.Test.YtpfjkjmimmklcaaGround
import Derived.MapKept
namespace Go.Proofs.Ytpfjkjmimmklcaa
open Go.RowKit

section
variable {P : Program} {ops : Array Oper} {md : Region.Mode} {w0 : World} {n : Nat} {ds : List Deferred}

/-- nothing yet, or a block that is there -/
def Laid (v : Value) (w : World) : Prop := v = undef ∨ ∃ g, v = .pointer (some ⟨g, 0, none⟩) ∧ g < w.heap.size
theorem Laid.ext {v : Value} {w w' : World} (h : Laid v w) (hw : Ext w w') : Laid v w' := by
  rcases h with h | ⟨g, h1, h2⟩
  · exact .inl h
  · exact .inr ⟨g, h1, Nat.lt_of_lt_of_le h2 hw.size⟩
structure Two (d e : Tmp) (a : Act) (w : World) : Prop where
  l1 : Laid (a.tmps.getD d undef) w
  l2 : Laid (a.tmps.getD e undef) w
  ne : a.tmps.getD d undef = a.tmps.getD e undef → a.tmps.getD d undef = undef
theorem put_getD (a : Act) (t : Option Tmp) (v : Value) (d : Tmp) : (a.put t v).tmps.getD d undef = a.tmps.getD d undef ∨ (t = some d ∧ (a.put t v).tmps.getD d undef = v) := by
  cases t with
  | none => exact .inl rfl
  | some t =>
    by_cases h : t = d
    · subst h
      by_cases hl : t < a.tmps.size
      · exact .inr ⟨rfl, by simp [Act.put, hl]⟩
      · exact .inl (by simp [Act.put, hl])
    · exact .inl (by simp [Act.put, Array.getElem?_setIfInBounds_ne h])
theorem put_other (a : Act) {t : Option Tmp} (v : Value) {d : Tmp} (h : t ≠ some d) : (a.put t v).tmps.getD d undef = a.tmps.getD d undef := by
  rcases put_getD a t v d with h1 | ⟨h1, _⟩
  · exact h1
  · exact absurd h1 h
theorem Two.other {d e : Tmp} {a : Act} {w w' : World} (h : Two d e a w) (hw : Ext w w') {t : Option Tmp} (h1 : t ≠ some d) (h2 : t ≠ some e) (v : Value) : Two d e (a.put t v) w' :=
  ⟨by rw [put_other a v h1]; exact h.l1.ext hw, by rw [put_other a v h2]; exact h.l2.ext hw, by rw [put_other a v h1, put_other a v h2]; exact h.ne⟩
theorem ptr_ne_undef (g : Nat) : Value.pointer (some ⟨g, 0, none⟩) ≠ undef := by unfold undef; simp
/-- a new block, or nothing -/
theorem Two.new {d e : Tmp} {a : Act} {w w' : World} (h : Two d e a w) (hde : d ≠ e) (hw : Ext w w') {t : Option Tmp} {v : Value} (hv : v = undef ∨ (v = .pointer (some ⟨w.heap.size, 0, none⟩) ∧ w.heap.size < w'.heap.size)) : Two d e (a.put t v) w' := by
  have hnew : Laid v w' := by
    rcases hv with hv | ⟨hv, hl⟩
    · exact .inl hv
    · exact .inr ⟨_, hv, hl⟩
  have hold : ∀ {u : Value}, Laid u w → u = v → v = undef := fun hu he => by
    rcases hv with hv | ⟨hv, _⟩
    · exact hv
    · rcases hu with hu | ⟨g, h1, h2⟩
      · rw [← he, hu]
      · exfalso
        rw [h1, hv] at he
        injection he with he
        injection he with he
        injection he with he
        omega
  rcases put_getD a t v d with h1 | ⟨h1, h1'⟩ <;> rcases put_getD a t v e with h2 | ⟨h2, h2'⟩
  · exact ⟨by rw [h1]; exact h.l1.ext hw, by rw [h2]; exact h.l2.ext hw, by rw [h1, h2]; exact h.ne⟩
  · exact ⟨by rw [h1]; exact h.l1.ext hw, by rw [h2']; exact hnew, by rw [h1, h2']; exact fun hx => by rw [hx]; exact hold h.l1 hx⟩
  · exact ⟨by rw [h1']; exact hnew, by rw [h2]; exact h.l2.ext hw, by rw [h1', h2]; exact fun hx => hold h.l2 hx.symm⟩
  · exact absurd (Option.some.inj (h1.symm.trans h2)) hde

/-- who writes the two slots makes a variable -/
def varsB (ops : Array Oper) (d e : Tmp) : Bool := ops.all fun o => (o.dst != some d && o.dst != some e) || (match o.op with | .alloc _ => true | _ => false)
theorem alloc_run {ρ : Operand → Value} {o : Oper} {t : TypeId} (ho : o.op = .alloc t) {w w' : World} {nx : Next} (h : (execOp ρ o).run P w = .ok nx w') : nx = .value (.pointer (some ⟨w.heap.size, 0, none⟩)) ∧ w'.heap.size = w.heap.size + 1 := by
  simp only [execOp, ho, Instr.alloc, Sem.run_bind] at h
  cases hz : (zeroValue t).run P w with
  | halt _ _ => simp [hz, Result.andThen] at h
  | ok z w1 =>
    have e := MapKept.run_zeroValue_world hz
    subst e
    simp only [hz, Result.andThen] at h
    simp [go_sem, newVar] at h
    obtain ⟨rfl, rfl⟩ := h
    exact ⟨rfl, World.size_alloc _ _⟩

theorem wpAny_of_ext2 {m g : Nat} {d e : Tmp} {L : Array Bool → (Tmp → AV) → Prop} {Q' : Exit → Act → World → Prop} (hde : d ≠ e) (h2B : varsB ops d e = true) (hd : dstsIn ops m = true)
    (hL : ∀ listed S, L listed S → ∀ a w, Ext w0 w → Fits S m ds a w → Two d e a w → wpAny P md ops Q' g listed a w) :
    ∀ (f : Nat) (listed : Array Bool) (S : Tmp → AV), (∀ t, (S t).Stable w0) → wpAnyE P md ops w0 n L f listed S → ∀ a w, Ext w0 w → Fits S m ds a w → Two d e a w → wpAny P md ops Q' (f + g) listed a w
  | 0, listed, S, _, h => fun a w hw ha hT => by rw [Nat.zero_add]; exact hL _ _ h a w hw ha hT
  | f + 1, listed, S, hS, h => fun a w hw ha hT => by
    rw [show f + 1 + g = (f + g) + 1 by omega]
    refine ⟨fun h0 => absurd h0 h.1, fun i hi => ?_⟩
    have h2 := (h.2 i hi).2
    unfold eOp at h2
    unfold wpOp
    cases ho : ops[i]? with
    | none => simp only [ho] at h2 ⊢; exact wpAny_of_ext2 hde h2B hd hL f _ S hS h2 a w hw ha hT
    | some o =>
      simp only [ho] at h2 ⊢
      obtain ⟨x, ⟨hst, hx⟩, hK⟩ := h2
      have hin : (o.dst.all (· < m)) = true ∧ (o.looksAt ops).all (· < m) = true := by
        have := Array.all_eq_true_iff_forall_mem.1 hd o (Array.mem_of_getElem? ho)
        simpa using this
      have htwo : (o.dst ≠ some d ∧ o.dst ≠ some e) ∨ ∃ t, o.op = .alloc t := by
        have := Array.all_eq_true_iff_forall_mem.1 h2B o (Array.mem_of_getElem? ho)
        simp only [Bool.or_eq_true, Bool.and_eq_true, bne_iff_ne, ne_eq] at this
        rcases this with h1 | h1
        · exact .inl h1
        · cases hop : o.op <;> simp only [hop] at h1 <;> first | exact .inr ⟨_, rfl⟩ | cases h1
      have h3 := hx a w hw fun t ht => ha.2.2 t (by have := List.all_eq_true.1 hin.2 t ht; simpa using this)
      have hS' : ∀ t, (sput S o.dst x t).Stable w0 := fun t => by
        unfold sput
        split
        · exact hst
        · exact hS t
      have go : ∀ v w', Ext w w' → x.sat v w' → Two d e (a.put o.dst v) w' → wpAny P md ops Q' (f + g) (listed.setIfInBounds i true) (a.put o.dst v) w' := fun v w' hw' hv hT' =>
        wpAny_of_ext2 hde h2B hd hL f _ _ hS' hK _ _ (hw.trans hw') (ha.put hS hw hw' hv) hT'
      split
      · rename_i hwant
        simp only [hwant, if_true] at h3
        refine .inl ?_
        unfold Oper.wp
        generalize hr : (execOp a.eval o).run P w = r at h3 ⊢
        cases r with
        | ok nx w' =>
          rcases htwo with ⟨h4, h5⟩ | ⟨t, h4⟩
          · cases nx <;> simp only [eUpon] at h3 <;> simp only [Oper.upon]
            case value u => exact go _ _ h3.1 h3.2 (hT.other h3.1 h4 h5 _)
            case skip => exact go _ _ h3.1 h3.2 (hT.other h3.1 h4 h5 _)
            case enter fn args => exact h3.2.mono fun e w'' ⟨v, he, hw'', hv⟩ => by subst he; exact go _ _ (h3.1.trans hw'') hv (hT.other (h3.1.trans hw'') h4 h5 _)
          · obtain ⟨rfl, hsz⟩ := alloc_run h4 hr
            simp only [eUpon] at h3
            simp only [Oper.upon]
            exact go _ _ h3.1 h3.2 (hT.new hde h3.1 (.inr ⟨rfl, by omega⟩))
        | halt x w' => simp only [eUpon] at h3
      · rename_i hwant
        simp only [hwant, Bool.false_eq_true, if_false] at h3
        exact go _ _ (Ext.refl _) h3 (hT.new hde (Ext.refl _) (.inl rfl))

theorem wp_region_sem2 {id : Nat} {Q : Exit → Act → World → Prop} {a : Act} {w : World} {l : List Oper} {d e : Tmp} (hde : d ≠ e) (h2B : varsB l.toArray d e = true) (hT0 : Two d e a w) (n : Nat) (S0 : Tmp → AV) (m : Nat) (hm : P.follows .mixedOrders = true) (hB : extB l.toArray n = true) (hd : dstsIn l.toArray m = true)
    (hS0 : ∀ t, (S0 t).Stable w) (hfit : Fits S0 m ds a w)
    (h : wpSem P l.toArray w (fun S => ∀ a' w', Ext w w' → Fits S m ds a' w' → Two d e a' w' → wpList P l.toArray Q (l.drop n) a' w') (l.take n) S0) : (Code.region id l.toArray true).wp P Q a w := by
  simp only [extB, Bool.and_eq_true, decide_eq_true_eq] at hB
  obtain ⟨⟨hn, hsc⟩, hlex⟩ := hB
  have hn' : n ≤ l.length := by simpa using hn
  have htl : (l.take n).length = n := by simp; omega
  have hdl : (l.drop n).length = l.toArray.size - n := by simp
  have inv0 : HeadInv .any l.toArray n (Array.replicate l.toArray.size false) :=
    ⟨by simp, fun j oj _ hl => (by rw [getD_replicate_false] at hl; cases hl), fun t _ ht => getD_in (by simpa using ht) (getD_replicate_false _ _)⟩
  have hT : ∀ i, i < n → ∀ listed, HeadInv .any l.toArray n listed → listed.getD i true = false → ∀ t, n ≤ t → t ∉ Region.ready .any l.toArray listed := by
    intro i hi listed inv hun t ht hr
    simp only [Bool.or_eq_true, decide_eq_true_eq, Bool.and_eq_true] at hsc
    rcases hsc with hsc | hsc
    · obtain ⟨_, ot, hot, _⟩ := mem_ready.1 hr
      have htlt := (Array.getElem?_eq_some_iff.1 hot).1
      omega
    · by_cases hlt : n < l.toArray.size
      · exact tail_waits hsc.1 hsc.2 hlt inv _ i rfl hi hun t ht hr
      · obtain ⟨_, ot, hot, _⟩ := mem_ready.1 hr
        have htlt := (Array.getElem?_eq_some_iff.1 hot).1
        omega
  have H := wpAnyE_lex (md := .any) (g := l.toArray.size - n) hT (l.take n) 0 _ S0 (fun j hj => by
    have hj' : j < n := by rw [htl] at hj; exact hj
    simp [hj']) (by simpa using htl) inv0 (by rw [htl]; exact hlex) h
  refine wp_region_any hm ?_
  have hw1 : Ext w { w with drawn := w.drawn + 1 } := Ext.drew w
  have hT1 : Two d e a { w with drawn := w.drawn + 1 } := ⟨hT0.l1.ext hw1, hT0.l2.ext hw1, hT0.ne⟩
  have := wpAny_of_ext2 (w0 := w) (ds := ds) (Q' := Q) (g := l.toArray.size - n) hde h2B hd (fun listed S hL a' w' hw' hf hT' => by
    have := wpAny_of_seq (md := .any) (Q' := Q) (l.drop n) n listed a' w' (fun j => by simp [List.getElem?_drop]) (by rw [hdl]; exact hL.1) (hL.2 a' w' hw' hf hT')
    rwa [hdl] at this) _ _ S0 hS0 H a _ hw1 ⟨hfit.1, hfit.2.1, fun t ht => hS0 t _ _ _ (Ext.refl _) hw1 (hfit.2.2 t ht)⟩ hT1
  rw [htl, show n + (l.toArray.size - n) = l.toArray.size by omega] at this
  exact this

/-- **A REGION THAT DRAWS ITS ORDER AND MAKES TWO VARIABLES**: as wp_region_ext; behind its head they are two. -/
theorem wp_region_ext2 {id : Nat} {Q : Exit → Act → World → Prop} {a : Act} {w : World} {l : List Oper} (d e : Tmp) (n : Nat) (hde : d ≠ e) (h2B : varsB l.toArray d e = true) (hu : a.tmps.getD d undef = undef) (hu2 : a.tmps.getD e undef = undef) (hm : P.follows .mixedOrders = true) (hB : extB l.toArray n = true) (hd : dstsIn l.toArray a.tmps.size = true)
    (h : wpE P l.toArray w (fun a1 F => distinctB F = true ∧ (F.all fun x => x.1 < a.tmps.size) = true ∧ ∀ w', Ext w w' → EndQ w' F (fun a' => (a'.tmps.getD d undef = a'.tmps.getD e undef → a'.tmps.getD d undef = undef) → wpList P l.toArray Q (l.drop n) a' w') a1) (l.take n) a []) : (Code.region id l.toArray true).wp P Q a w := by
  refine wp_region_sem2 (ds := a.defers) hde h2B ⟨.inl hu, .inl hu2, fun _ => hu⟩ n (semOf a []) a.tmps.size hm hB hd (fun t => ?_) ⟨rfl, rfl, fun t _ => ?_⟩ (wpSem_of_wpE (ds := a.defers) (m := a.tmps.size) (fun a1 F hs1 hd1 hq a' w' hw' hf hT => ?_) _ a [] rfl rfl h)
  · rw [semOf_none (by rfl)]; exact AV.stable_k _ _
  · rw [semOf_none (by rfl)]; rfl
  · obtain ⟨hB1, hz, hq⟩ := hq
    refine EndQ_elim (a' := a') F hB1 (hq w' hw') (hf.1.trans hs1.symm) (hf.2.1.trans hd1.symm) (by rw [hs1]; exact hz) (fun t G hG => ?_) (fun t hn => ?_) hT.ne
    · have hlt : t < a.tmps.size := by
        have := hz
        simp only [Facts.get, Option.map_eq_some_iff] at hG
        obtain ⟨x, hx, _⟩ := hG
        have h1 := List.find?_some hx
        have h2 := List.all_eq_true.1 hz x (List.mem_of_find?_eq_some hx)
        simp at h1 h2
        rw [← h1]; exact h2
      have := hf.2.2 t hlt
      rw [semOf_some hG] at this
      exact this
    · by_cases hlt : t < a.tmps.size
      · have := hf.2.2 t hlt
        rw [semOf_none hn] at this
        exact this
      · have h1 : a'.tmps.size ≤ t := by rw [hf.1]; exact Nat.le_of_not_lt hlt
        have h2 : a1.tmps.size ≤ t := by rw [hs1]; exact Nat.le_of_not_lt hlt
        simp [h1, h2]
end
end Go.Proofs.Ytpfjkjmimmklcaa
