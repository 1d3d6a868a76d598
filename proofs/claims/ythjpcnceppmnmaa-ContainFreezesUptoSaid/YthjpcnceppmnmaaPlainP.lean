/-
  The plain form of a query, as plain data: a renaming of its variables.
-/
import Derived.Test.YthjpcnceppmnmaaCoreA
namespace Go.Proofs.Ythjpcnceppmnmaa

/-- n in decimal digits -/
def digL (n : Nat) : List UInt8 := if h : n < 10 then [UInt8.ofNat (48 + n)] else digL (n / 10) ++ [UInt8.ofNat (48 + n % 10)]
decreasing_by omega
def valL (l : List UInt8) : Nat := l.foldl (fun a c => a * 10 + (c.toNat - 48)) 0
theorem dig_nat {k : Nat} (h : k < 10) : (UInt8.ofNat (48 + k)).toNat = 48 + k := by
  rw [UInt8.toNat_ofNat']; omega
theorem valL_dig (n : Nat) : valL (digL n) = n := by
  induction n using Nat.strongRecOn with
  | _ n ih =>
    rw [digL]
    split
    · rename_i h
      simp only [valL, List.foldl_cons, List.foldl_nil, dig_nat h]
      omega
    · rename_i h
      have := ih (n / 10) (by omega)
      unfold valL at *
      rw [List.foldl_append, this]
      simp only [List.foldl_cons, List.foldl_nil, dig_nat (show n % 10 < 10 by omega)]
      omega
theorem digL_inj {n m : Nat} (h : digL n = digL m) : n = m := by
  rw [← valL_dig n, h, valL_dig]
theorem digL_digit (n : Nat) : ∀ c ∈ digL n, digitB c = true := by
  induction n using Nat.strongRecOn with
  | _ n ih =>
    rw [digL]
    split
    · rename_i h
      intro c hc
      obtain rfl := List.mem_singleton.1 hc
      unfold digitB
      rw [dig_nat h]
      simp only [Bool.and_eq_true, decide_eq_true_eq]; omega
    · rename_i h
      intro c hc
      rcases List.mem_append.1 hc with hc | hc
      · exact ih (n / 10) (by omega) c hc
      · obtain rfl := List.mem_singleton.1 hc
        unfold digitB
        rw [dig_nat (show n % 10 < 10 by omega)]
        simp only [Bool.and_eq_true, decide_eq_true_eq]; omega
theorem digL_len {n : Nat} (h : n < 100) : (digL n).length ≤ 2 := by
  rw [digL]
  split
  · simp
  · rw [digL, dif_pos (by omega)]
    simp
/-- a v, and the number -/
def vName (n : Nat) : ByteArray := ⟨(118 :: digL n).toArray⟩
theorem vName_inj {n m : Nat} (h : vName n = vName m) : n = m := by
  unfold vName at h
  injection h with h
  have h2 := congrArg Array.toList h
  simp only [List.cons.injEq, true_and] at h2
  exact digL_inj h2
theorem vName_name {n : Nat} (h : n < 100) : nameB (vName n) = true := by
  have hl := digL_len h
  unfold nameB vName
  simp only [Bool.and_eq_true, List.all_eq_true, decide_eq_true_eq]
  refine ⟨⟨(by decide : letterB 118 = true), fun c hc => ?_⟩, ?_⟩
  · rcases List.mem_cons.1 hc with rfl | hc
    · decide
    · unfold partB
      rw [digL_digit n c hc, Bool.or_true]
  · show (118 :: digL n).toArray.size ≤ 16
    simp only [List.size_toArray, List.length_cons]
    omega

/-- all variables that stand in terms, as often as they stand there -/
def varsL (ts : List Tm) : List ByteArray := (ts.filter fun t => !noVar t).map (·.v)
def oldQ (q : Qy) : List ByteArray := q.head ++ varsL (q.atoms.flatMap (·.terms))
def seenQ (q : Qy) : List ByteArray := (oldQ q).foldl addV []
def atN (l : List ByteArray) (x : ByteArray) : Nat := (firstI (eqB x) l 0).toNat
def ren (q : Qy) (x : ByteArray) : ByteArray := vName (atN (seenQ q) x)
def renT (q : Qy) (t : Tm) : Tm := if noVar t then t else ⟨ren q t.v, t.c⟩
def renA (q : Qy) (a : Atm) : Atm := ⟨a.rel, a.terms.map (renT q)⟩
def plainQ (q : Qy) : Qy := ⟨q.name, q.head.map (ren q), q.atoms.map (renA q)⟩

theorem mem_seen : ∀ (l acc : List ByteArray) (x : ByteArray), x ∈ l.foldl addV acc ↔ x ∈ acc ∨ x ∈ l
  | [], acc, x => by simp
  | y :: l, acc, x => by
    rw [List.foldl_cons, mem_seen l]
    unfold addV
    by_cases h : memB acc y = true
    · simp only [h, if_true, List.mem_cons]
      constructor
      · rintro (h1 | h1)
        · exact .inl h1
        · exact .inr (.inr h1)
      · rintro (h1 | rfl | h1)
        · exact .inl h1
        · exact .inl (memB_iff.1 h)
        · exact .inr h1
    · simp only [h, Bool.false_eq_true, if_false, List.mem_append, List.mem_cons, List.not_mem_nil, or_false, or_assoc]
theorem seen_len : ∀ (l acc : List ByteArray), (l.foldl addV acc).length ≤ acc.length + l.length
  | [], acc => by simp
  | y :: l, acc => by
    rw [List.foldl_cons]
    have := seen_len l (addV acc y)
    have h2 : (addV acc y).length ≤ acc.length + 1 := by
      unfold addV
      split
      · omega
      · simp
    simp only [List.length_cons]
    omega
theorem at_mem {l : List ByteArray} {x : ByteArray} (h : x ∈ l) : ∃ k : Nat, firstI (eqB x) l 0 = (k : Int) ∧ l[k]? = some x := by
  have h0 : 0 ≤ firstI (eqB x) l 0 := (firstI_iff _ _ _).2 (memB_iff.2 h)
  obtain ⟨k, y, h1, h2, h3, _⟩ := firstI_some _ _ _ h0
  have e : y = x := of_decide_eq_true h3
  exact ⟨k, by rw [h1, Nat.zero_add], e ▸ h2⟩
theorem atN_get {l : List ByteArray} {x : ByteArray} (h : x ∈ l) : l[atN l x]? = some x := by
  obtain ⟨k, h1, h2⟩ := at_mem h
  unfold atN
  rw [h1]
  exact h2
theorem ren_inj {q : Qy} {x y : ByteArray} (hx : x ∈ seenQ q) (hy : y ∈ seenQ q) (h : ren q x = ren q y) : x = y := by
  have h1 := vName_inj h
  have h2 := atN_get hx
  rw [h1, atN_get hy] at h2
  injection h2 with h2
  exact h2.symm
theorem flat_len {q : Qy} (h : Shaped q) : (q.atoms.flatMap (·.terms)).length ≤ 30 := by
  have h6 := h.six
  have : ∀ as_ : List Atm, (∀ a ∈ as_, a.terms.length ≤ 5) → (as_.flatMap (·.terms)).length ≤ as_.length * 5 := by
    intro as_
    induction as_ with
    | nil => intro _; simp
    | cons a r ih =>
      intro h
      have := ih fun x hx => h x (by simp [hx])
      have := h a (by simp)
      simp only [List.flatMap_cons, List.length_append, List.length_cons]
      omega
  have := this q.atoms fun a ha => (h.atoms a ha).2.1
  omega
theorem head_len {q : Qy} (h : Shaped q) : q.head.length ≤ 30 := by
  have h1 := nodup_sub_len q.head ((q.atoms.flatMap (·.terms)).map (·.v)) h.nodup fun x hx => by
    obtain ⟨a, ha, t, ht, _, e⟩ := h.safe x hx
    rw [List.mem_map]
    exact ⟨t, List.mem_flatMap.2 ⟨a, ha, ht⟩, e⟩
  have := flat_len h
  simp only [List.length_map] at h1
  omega
theorem old_len {q : Qy} (h : Shaped q) : (oldQ q).length ≤ 60 := by
  have h1 := head_len h
  have h2 := flat_len h
  have h3 := List.length_filter_le (fun t => !noVar t) (q.atoms.flatMap (·.terms))
  simp only [oldQ, varsL, List.length_append, List.length_map]
  omega
theorem seen_sixty {q : Qy} (h : Shaped q) : (seenQ q).length ≤ 60 := by
  have h1 := seen_len (oldQ q) []
  have h2 := old_len h
  simp only [List.length_nil] at h1
  unfold seenQ
  omega
theorem atN_lt {q : Qy} (h : Shaped q) (x : ByteArray) : atN (seenQ q) x < 100 := by
  have h1 := firstI_le (eqB x) (seenQ q) 0
  have h2 := seen_sixty h
  unfold atN
  omega
theorem ren_name {q : Qy} (h : Shaped q) (x : ByteArray) : nameB (ren q x) = true := vName_name (atN_lt h x)
theorem head_seen {q : Qy} {x : ByteArray} (h : x ∈ q.head) : x ∈ seenQ q := (mem_seen _ _ _).2 (.inr (List.mem_append_left _ h))
theorem term_seen {q : Qy} {a : Atm} {t : Tm} (ha : a ∈ q.atoms) (ht : t ∈ a.terms) (hn : noVar t = false) : t.v ∈ seenQ q :=
  (mem_seen _ _ _).2 (.inr (List.mem_append_right _ (List.mem_map.2 ⟨t, List.mem_filter.2 ⟨List.mem_flatMap.2 ⟨a, ha, ht⟩, by rw [hn]; rfl⟩, rfl⟩)))
theorem renT_var {q : Qy} (h : Shaped q) (t : Tm) : noVar (renT q t) = noVar t := by
  unfold renT
  by_cases hn : noVar t = true
  · simp [hn]
  · have hn' : noVar t = false := by simpa using hn
    rw [hn']
    simp only [Bool.false_eq_true, if_false]
    exact name_some (ren_name h t.v)

theorem plain_shaped {q : Qy} (h : Shaped q) : Shaped (plainQ q) := by
  refine ⟨h.name, fun x hx => ?_, fun a ha => ?_, ?_, ?_, ?_, fun x hx => ?_⟩
  · obtain ⟨y, _, rfl⟩ := List.mem_map.1 hx
    exact ren_name h y
  · obtain ⟨a', ha', rfl⟩ := List.mem_map.1 ha
    have h1 := h.atoms a' ha'
    refine ⟨h1.1, by simpa [renA] using h1.2.1, fun t ht => ?_⟩
    obtain ⟨t', ht', rfl⟩ := List.mem_map.1 ht
    have h2 := h1.2.2 t' ht'
    rw [renT_var h]
    unfold renT
    refine ⟨fun hn => ?_, fun hn => ?_⟩
    · rw [if_pos hn]; exact h2.1 hn
    · rw [if_neg (by simp [hn])]
      exact ⟨ren_name h _, (h2.2 hn).2⟩
  · simpa [plainQ] using h.some
  · simpa [plainQ] using h.six
  · show (q.head.map (ren q)).Nodup
    unfold List.Nodup
    rw [List.pairwise_iff_getElem]
    intro i j hi hj hij e
    simp only [List.length_map] at hi hj
    simp only [List.getElem_map] at e
    have e2 := ren_inj (head_seen (List.getElem_mem hi)) (head_seen (List.getElem_mem hj)) e
    have hn := h.nodup
    unfold List.Nodup at hn
    rw [List.pairwise_iff_getElem] at hn
    exact hn i j hi hj hij e2
  · obtain ⟨y, hy, rfl⟩ := List.mem_map.1 hx
    obtain ⟨a, ha, t, ht, hn, hv⟩ := h.safe y hy
    refine ⟨renA q a, List.mem_map.2 ⟨a, ha, rfl⟩, renT q t, List.mem_map.2 ⟨t, ht, rfl⟩, by rw [renT_var h]; exact hn, ?_⟩
    unfold renT
    rw [if_neg (by simp [hn]), hv]
theorem plain_on {q : Qy} (h : Shaped q) : Lies q (plainQ q) := by
  refine ⟨fun x => ⟨ren q x, zeroV⟩, fun i x y hx hy => ?_, fun a ha => ⟨renA q a, List.mem_map.2 ⟨a, ha, rfl⟩, rfl, ?_⟩⟩
  · have : (q.head.map (ren q))[i]? = some y := hy
    rw [List.getElem?_map, hx] at this
    simp only [Option.map_some, Option.some.injEq] at this
    show (⟨ren q x, zeroV⟩ : Tm) = _
    rw [this]
  · show a.terms.map (renT q) = _
    apply List.map_congr_left
    intro t ht
    unfold renT app
    by_cases hn : noVar t = true
    · simp [hn]
    · have hn' : noVar t = false := by simpa using hn
      simp only [hn', Bool.false_eq_true, if_false]
      rw [h.clean a ha t ht hn']
theorem plain_back {q : Qy} (h : Shaped q) : Lies (plainQ q) q := by
  have hinv : ∃ inv : ByteArray → ByteArray, ∀ x ∈ seenQ q, inv (ren q x) = x := by
    refine ⟨fun y => ((seenQ q).find? fun x => decide (ren q x = y)).getD y, fun x hx => ?_⟩
    cases hf : (seenQ q).find? fun z => decide (ren q z = ren q x) with
    | none =>
      rw [List.find?_eq_none] at hf
      exact absurd (hf x hx) (by simp)
    | some z =>
      have h1 := List.find?_some hf
      have h2 := List.mem_of_find?_eq_some hf
      show (((seenQ q).find? fun x' => decide (ren q x' = ren q x)).getD (ren q x)) = x
      rw [hf]
      exact ren_inj h2 hx (of_decide_eq_true h1)
  obtain ⟨inv, hinv⟩ := hinv
  refine ⟨fun x => ⟨inv x, zeroV⟩, fun i x y hx hy => ?_, fun a ha => ?_⟩
  · have : (q.head.map (ren q))[i]? = some x := hx
    rw [List.getElem?_map, hy] at this
    simp only [Option.map_some, Option.some.injEq] at this
    show (⟨inv x, zeroV⟩ : Tm) = _
    rw [← this, hinv y (head_seen (List.mem_of_getElem? hy))]
  · obtain ⟨a', ha', rfl⟩ := List.mem_map.1 ha
    refine ⟨a', ha', rfl, ?_⟩
    show a'.terms = (a'.terms.map (renT q)).map _
    rw [List.map_map]
    have key : ∀ t ∈ a'.terms, (app (fun x => (⟨inv x, zeroV⟩ : Tm)) ∘ renT q) t = id t := fun t ht => by
     show app _ (renT q t) = t
     unfold app
     rw [renT_var h]
     by_cases hn : noVar t = true
     · simp [hn, renT]
     · have hn' : noVar t = false := by simpa using hn
       simp only [hn', Bool.false_eq_true, if_false, renT]
       rw [hinv _ (term_seen ha' ht hn'), ← h.clean a' ha' t ht hn']
    rw [List.map_congr_left key, List.map_id]

/-- the query with one atom more -/
def moreQ (a : Qy) (x : Atm) : Qy := ⟨a.name, a.head, a.atoms ++ [x]⟩
theorem more_shaped {a b : Qy} {x : Atm} (ha : Shaped a) (hb : Shaped b) (hx : x ∈ b.atoms) (hl : a.atoms.length < 6) : Shaped (moreQ a x) := by
  refine ⟨ha.name, ha.head, fun y hy => ?_, by simp [moreQ], by simp only [moreQ, List.length_append, List.length_cons, List.length_nil]; omega, ha.nodup, fun y hy => ?_⟩
  · rcases List.mem_append.1 hy with hy | hy
    · exact ha.atoms y hy
    · obtain rfl := List.mem_singleton.1 hy
      exact hb.atoms y hx
  · obtain ⟨z, hz, h⟩ := ha.safe y hy
    exact ⟨z, List.mem_append_left _ hz, h⟩
theorem more_on {a : Qy} {x : Atm} (ha : Shaped a) : Lies a (moreQ a x) := Lies.sub ha.clean rfl fun _ h => List.mem_append_left _ h
end Go.Proofs.Ythjpcnceppmnmaa
