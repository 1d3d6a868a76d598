/-
  Unpacking as plain lists of bytes: the program's reading, and the document's.
-/
import Derived.Test.YtoahckibhmoikaaDoorPackP
import Derived.Laws.Closers25b
namespace Go.Proofs.YtoahckibhmoikaaDoor

def num8 (l : List UInt8) : Nat := l.foldl (fun n c => n * 256 + c.toNat) 0
def unbias (N : Nat) : Int := (N : Int) - 9223372036854775808
def scanT : List UInt8 → Option (List UInt8 × Nat)
  | [] => none
  | [b] => if b = 0 then none else none
  | b :: c :: l => if b = 0 then (if c = 0 then some ([], 2) else if c = 255 then (scanT l).map fun p => (0 :: p.1, p.2 + 2) else none) else (scanT (c :: l)).map fun p => (b :: p.1, p.2 + 1)
def one : List UInt8 → Option (V × Nat)
  | [] => none
  | h :: l =>
    if h = 1 then (if l.length < 8 then none else some (⟨1, unbias (num8 (l.take 8)), ByteArray.empty⟩, 9))
    else if h = 2 then (match scanT l with | some (t, k) => if 64 < t.length then none else some (⟨2, 0, ⟨t.toArray⟩⟩, k + 1) | none => none)
    else none
def decGo : Nat → List UInt8 → Option (List V)
  | _, [] => some []
  | 0, _ :: _ => none
  | k + 1, b :: l => match one (b :: l) with | none => none | some (v, n) => (decGo k ((b :: l).drop n)).map (v :: ·)
def decR (b : List UInt8) : List V × Int := match decGo 30 b with | some r => (r, 0) | none => ([], 22)

theorem scanT_cons {b : UInt8} (l : List UInt8) (h : b ≠ 0) : scanT (b :: l) = (scanT l).map fun p => (b :: p.1, p.2 + 1) := by
  cases l with
  | nil => simp [scanT]
  | cons c l => simp [scanT, h]
theorem scanT_esc : ∀ (t rest : List UInt8), scanT (esc t ++ 0 :: 0 :: rest) = some (t, (esc t).length + 2)
  | [], rest => by simp [esc, scanT]
  | b :: t, rest => by
    by_cases h : b = 0
    · subst h
      simp [esc, scanT, scanT_esc t rest]
    · simp only [esc, if_neg h, List.cons_append]
      rw [scanT_cons _ h, scanT_esc t rest]
      simp
theorem scanT_back : ∀ (n : Nat) (l : List UInt8) (t : List UInt8) (k : Nat), l.length ≤ n → scanT l = some (t, k) → l.take k = esc t ++ [0, 0] ∧ k ≤ l.length
  | n, [], t, k, _, h => by simp [scanT] at h
  | n, [b], t, k, _, h => by simp [scanT] at h
  | 0, _ :: _ :: _, _, _, hn, _ => by simp at hn
  | n + 1, b :: c :: l, t, k, hn, h => by
    by_cases hb : b = 0
    · subst hb
      simp only [scanT, if_true] at h
      split at h
      · rename_i hc; subst hc; cases h; simp [esc]
      · split at h
        · rename_i hc; subst hc
          obtain ⟨⟨t', k'⟩, h1, h2⟩ := Option.map_eq_some_iff.1 h
          cases h2
          obtain ⟨h3, h4⟩ := scanT_back n l t' k' (by simp at hn; omega) h1
          simp [esc, h3, h4]
        · cases h
    · rw [scanT_cons _ hb] at h
      obtain ⟨⟨t', k'⟩, h1, h2⟩ := Option.map_eq_some_iff.1 h
      cases h2
      obtain ⟨h3, h4⟩ := scanT_back n (c :: l) t' k' (by simp at hn ⊢; omega) h1
      refine ⟨?_, by simp at h4 ⊢; omega⟩
      rw [List.take_succ_cons, h3]
      simp [esc, hb]
theorem num8_be (N : Nat) (h : N < 18446744073709551616) : num8 (be64 N) = N := by
  simp [num8, be64, UInt8.toNat_ofNat']
  omega
theorem unbias_bias {i : Int} (h : -9223372036854775808 ≤ i ∧ i ≤ 9223372036854775807) : unbias (bias i) = i := by unfold unbias bias; omega
theorem be_num8 (l : List UInt8) (h : l.length = 8) : be64 (num8 l) = l ∧ num8 l < 18446744073709551616 := by
  match l, h with
  | [a, b, c, d, e, f, g, i], _ =>
    have ha := a.toNat_lt; have hb := b.toNat_lt; have hc := c.toNat_lt; have hd := d.toNat_lt; have he := e.toNat_lt; have hf := f.toNat_lt; have hg := g.toNat_lt; have hi := i.toNat_lt
    have hN : num8 [a, b, c, d, e, f, g, i] = ((((((a.toNat * 256 + b.toNat) * 256 + c.toNat) * 256 + d.toNat) * 256 + e.toNat) * 256 + f.toNat) * 256 + g.toNat) * 256 + i.toNat := by simp [num8]
    refine ⟨?_, by rw [hN]; omega⟩
    have hx : ∀ (x : UInt8) (n : Nat), n % 256 = x.toNat → UInt8.ofNat n = x := fun x n h => UInt8.toNat_inj.1 (by rw [UInt8.toNat_ofNat']; exact h)
    simp only [be64, List.map_cons, List.map_nil]
    rw [hN, hx a _ (by omega), hx b _ (by omega), hx c _ (by omega), hx d _ (by omega), hx e _ (by omega), hx f _ (by omega), hx g _ (by omega), hx i _ (by omega)]
theorem be64_len (N : Nat) : (be64 N).length = 8 := rfl
def wfVI (v : V) : Prop := -9223372036854775808 ≤ v.i ∧ v.i ≤ 9223372036854775807
theorem one_pack (v : V) (h : validV v = true) (hw : wfVI v) (rest : List UInt8) : one (packV v ++ rest) = some (v, (packV v).length) := by
  obtain ⟨vk, vi, vt⟩ := v
  unfold validV at h
  unfold packV
  dsimp only at h ⊢
  split at h
  · rename_i h1; subst h1
    have h : vt = ByteArray.empty := (toList_nil_iff_emptyBytes vt).1 (by simpa using h)
    simp only [if_true, List.cons_append, one]
    rw [if_neg (by simp [be64_len])]
    have e : (be64 (bias vi) ++ rest).take 8 = be64 (bias vi) := List.take_left' rfl
    rw [e, num8_be _ (bias_lt hw), unbias_bias hw, h]
    rfl
  · rename_i h1
    split at h
    · rename_i h2; subst h2
      split at h
      · rename_i h3
        have h4 : vi = 0 := by simpa using h3
        subst h4
        have h5 : vt.size ≤ 64 := by have : (vt.size : Int) ≤ 64 := by simpa using h
                                     omega
        simp only [if_neg h1, one, List.cons_append, List.append_assoc, List.nil_append]
        rw [scanT_esc]
        have h6 : vt.data.toList.length = vt.size := Array.length_toList
        simp [h6]
        omega
      · cases h
    · cases h
theorem packV_pos (v : V) : 0 < (packV v).length := by
  unfold packV; split <;> simp
theorem one_back (b : List UInt8) (v : V) (n : Nat) (h : one b = some (v, n)) : b.take n = packV v ∧ validV v = true ∧ wfVI v ∧ n ≤ b.length ∧ 0 < n := by
  cases b with
  | nil => simp [one] at h
  | cons x l =>
    simp only [one] at h
    split at h
    · rename_i h1; subst h1
      split at h
      · cases h
      · rename_i h2
        cases h
        obtain ⟨h3, h4⟩ := be_num8 (l.take 8) (by rw [List.length_take]; omega)
        have h5 : bias (unbias (num8 (l.take 8))) = num8 (l.take 8) := by unfold bias unbias; omega
        refine ⟨?_, ?_, ?_, by simp; omega, by omega⟩
        · simp only [packV, if_true, h5, h3, List.take_succ_cons]
        · simp [validV, (toList_nil_iff_emptyBytes ByteArray.empty).2 rfl]
        · unfold wfVI unbias; dsimp only; omega
    · split at h
      · rename_i h1 h2; subst h2
        split at h
        · rename_i t k hs
          split at h
          · cases h
          · rename_i h3
            cases h
            obtain ⟨h4, h5⟩ := scanT_back l.length l t k (Nat.le_refl _) hs
            refine ⟨?_, ?_, ?_, by simp; omega, by omega⟩
            · simp only [packV, List.take_succ_cons, h4]
              rw [if_neg (by decide)]
            · have h6 : (⟨t.toArray⟩ : ByteArray).size = t.length := List.size_toArray
              simp only [validV]
              rw [if_neg (by decide), h6]
              simp; omega
            · unfold wfVI; dsimp only; omega
        · cases h
      · cases h
theorem dec_pack : ∀ (k : Nat) (r : List V), r.all validV = true → (∀ v ∈ r, wfVI v) → r.length ≤ k → decGo k (packR r) = some r
  | _, [], _, _, _ => by simp [packR, decGo]
  | 0, _ :: _, _, _, h => by simp at h
  | k + 1, v :: r, hv, hw, h => by
    simp only [List.all_cons, Bool.and_eq_true] at hv
    have e : packR (v :: r) = packV v ++ packR r := by simp [packR]
    have h1 := one_pack v hv.1 (hw v (by simp)) (packR r)
    rw [e]
    cases hp : packV v ++ packR r with
    | nil => have := packV_pos v; have h0 := congrArg List.length hp; rw [List.length_append, List.length_nil] at h0; omega
    | cons b l =>
      rw [hp] at h1
      simp only [decGo, h1]
      rw [← hp, List.drop_left, dec_pack k r hv.2 (fun u hu => hw u (by simp [hu])) (by simp at h; omega)]
      rfl
theorem dec_back : ∀ (k : Nat) (b : List UInt8) (r : List V), decGo k b = some r → packR r = b ∧ r.all validV = true ∧ (∀ v ∈ r, wfVI v) ∧ r.length ≤ k
  | k, [], r, h => by cases k <;> (simp [decGo] at h; subst h; simp [packR])
  | 0, _ :: _, _, h => by simp [decGo] at h
  | k + 1, b :: l, r, h => by
    simp only [decGo] at h
    split at h
    · cases h
    · rename_i v n ho
      obtain ⟨r', h1, rfl⟩ := Option.map_eq_some_iff.1 h
      obtain ⟨h2, h3, h4, h5, h6⟩ := one_back _ _ _ ho
      obtain ⟨i1, i2, i3, i4⟩ := dec_back k _ r' h1
      refine ⟨?_, by simp [h3, i2], ?_, by simp; omega⟩
      · have e : packR (v :: r') = packV v ++ packR r' := by simp [packR]
        rw [e, i1, ← h2, List.take_append_drop]
      · intro u hu
        rcases List.mem_cons.1 hu with rfl | hu
        · exact h4
        · exact i3 u hu

def scanR : List UInt8 → List UInt8 × List UInt8
  | [] => ([], [])
  | [b] => ([b], [])
  | b :: c :: l => if b = 0 then (if c = 0 then ([], l) else (0 :: (scanR l).1, (scanR l).2)) else (b :: (scanR (c :: l)).1, (scanR (c :: l)).2)
def refGo : Nat → List UInt8 → Option (List V)
  | _, [] => some []
  | 0, _ :: _ => none
  | k + 1, b :: l =>
    if b = 1 ∧ 8 ≤ l.length then (refGo k (l.drop 8)).map (⟨1, unbias (num8 (l.take 8)), ByteArray.empty⟩ :: ·)
    else if b = 2 then (refGo k (scanR l).2).map (⟨2, 0, ⟨(scanR l).1.toArray⟩⟩ :: ·) else none
def refR (b : List UInt8) : List V × Int := match refGo 30 b with | none => ([], 22) | some r => if packRes r = (b, 0) then (r, 0) else ([], 22)
theorem scanR_cons {b : UInt8} (l : List UInt8) (h : b ≠ 0) : scanR (b :: l) = (b :: (scanR l).1, (scanR l).2) := by
  cases l with
  | nil => simp [scanR]
  | cons c l => simp [scanR, h]
theorem scanR_esc : ∀ (t rest : List UInt8), scanR (esc t ++ 0 :: 0 :: rest) = (t, rest)
  | [], rest => by simp [esc, scanR]
  | b :: t, rest => by
    by_cases h : b = 0
    · subst h
      simp [esc, scanR, scanR_esc t rest]
    · simp only [esc, if_neg h, List.cons_append]
      rw [scanR_cons _ h, scanR_esc t rest]
theorem ref_dec_pack : ∀ (k : Nat) (r : List V), r.all validV = true → (∀ v ∈ r, wfVI v) → r.length ≤ k → refGo k (packR r) = some r
  | _, [], _, _, _ => by simp [packR, refGo]
  | 0, _ :: _, _, _, h => by simp at h
  | k + 1, v :: r, hv, hw, hk => by
    simp only [List.all_cons, Bool.and_eq_true] at hv
    have ih := ref_dec_pack k r hv.2 (fun u hu => hw u (by simp [hu])) (by simp at hk; omega)
    have e : packR (v :: r) = packV v ++ packR r := by simp [packR]
    have hw0 := hw v (by simp)
    have h := hv.1
    obtain ⟨vk, vi, vt⟩ := v
    rw [e]
    unfold validV at h
    unfold packV
    dsimp only at h ⊢
    split at h
    · rename_i h1; subst h1
      have h : vt = ByteArray.empty := (toList_nil_iff_emptyBytes vt).1 (by simpa using h)
      simp only [if_true, List.cons_append, refGo]
      rw [if_pos ⟨trivial, by simp [be64_len]⟩]
      have e : (be64 (bias vi) ++ packR r).take 8 = be64 (bias vi) := List.take_left' rfl
      have e2 : (be64 (bias vi) ++ packR r).drop 8 = packR r := List.drop_left' rfl
      rw [e, e2, num8_be _ (bias_lt hw0), unbias_bias hw0, h, ih]
      rfl
    · rename_i h1
      split at h
      · rename_i h2; subst h2
        split at h
        · rename_i h3
          have h4 : vi = 0 := by simpa using h3
          subst h4
          simp only [if_neg h1, refGo, List.cons_append, List.append_assoc, List.nil_append]
          rw [scanR_esc, if_neg (by rintro ⟨h0, _⟩; cases h0), if_pos trivial, ih]
          rfl
        · cases h
      · cases h
theorem refGo_wf : ∀ (k : Nat) (b : List UInt8) (r : List V), refGo k b = some r → ∀ v ∈ r, wfVI v
  | k, [], r, h => by cases k <;> (simp [refGo] at h; subst h; simp)
  | 0, _ :: _, _, h => by simp [refGo] at h
  | k + 1, b :: l, r, h => by
    simp only [refGo] at h
    split at h
    · rename_i h0
      obtain ⟨r', h1, rfl⟩ := Option.map_eq_some_iff.1 h
      intro u hu
      rcases List.mem_cons.1 hu with rfl | hu
      · obtain ⟨h3, h4⟩ := be_num8 (l.take 8) (by rw [List.length_take]; omega)
        unfold wfVI unbias; dsimp only; omega
      · exact refGo_wf k _ r' h1 u hu
    · split at h
      · obtain ⟨r', h1, rfl⟩ := Option.map_eq_some_iff.1 h
        intro u hu
        rcases List.mem_cons.1 hu with rfl | hu
        · unfold wfVI; dsimp only; omega
        · exact refGo_wf k _ r' h1 u hu
      · cases h
theorem refR_eq (b : List UInt8) : refR b = decR b := by
  unfold decR
  cases hd : decGo 30 b with
  | some r =>
    obtain ⟨h1, h2, h3, h4⟩ := dec_back 30 b r hd
    subst h1
    have h5 : packRes r = (packR r, 0) := by
      unfold packRes
      rw [if_neg (by omega), if_pos (by simp only [validR, Bool.and_eq_true, decide_eq_true_eq]; exact ⟨h4, h2⟩)]
    simp only [refR, ref_dec_pack 30 r h2 h3 h4, h5, if_true]
  | none =>
    unfold refR
    cases hr : refGo 30 b with
    | none => rfl
    | some r =>
      dsimp only
      split
      · rename_i h
        have h2 : ¬ 30 < r.length ∧ validR r = true ∧ packR r = b := by
          unfold packRes at h
          split at h
          · cases h
          · rename_i h3
            split at h
            · rename_i h4; cases h; exact ⟨h3, h4, rfl⟩
            · cases h
        obtain ⟨h3, h4, rfl⟩ := h2
        simp only [validR, Bool.and_eq_true] at h4
        rw [dec_pack 30 r h4.2 (refGo_wf 30 _ r hr) (by omega)] at hd
        cases hd
      · rfl
end Go.Proofs.YtoahckibhmoikaaDoor
