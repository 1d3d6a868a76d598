/-
  Unpacking as plain lists of bytes: the program's reading, and the document's.
  A store, plain: rows with their slots; the lists of each grouping.
  A store, plain: a row's key; one lane's step while a row is put in or taken out.
  store: link, its plain part: what is known of a store while a row is put into its lists.
-/
import Derived.Test.YtahdiiaadjdmcaaGaF
import Derived.Laws.Closers25b
import Derived.Test.YtahdiiaadjdmcaaGaJ
namespace Go.Proofs.Ytahdiiaadjdmcaa

def num8 (l : List UInt8) : Nat := l.foldl (fun n c => n * 256 + c.toNat) 0
def unbias (N : Nat) : Int := (N : Int) - 9223372036854775808
def scanT : List UInt8 → Option (List UInt8 × Nat)
  | [] => none
  | [b] => if b = 0 then none else none
  | b :: c :: l => if b = 0 then (if c = 0 then some ([], 2) else if c = 255 then (scanT l).map fun p => (0 :: p.1, p.2 + 2) else none) else (scanT (c :: l)).map fun p => (b :: p.1, p.2 + 1)
def one : List UInt8 → Option (V × Nat)
  | [] => none
  | h :: l =>
    if h = 1 then (if l.length < 8 then none else some (⟨1, unbias (num8 (l.take 8)), ByteArray.empty⟩, 9))
    else if h = 2 then (match scanT l with | some (t, k) => if 64 < t.length then none else some (⟨2, 0, ⟨t.toArray⟩⟩, k + 1) | none => none)
    else none
def decGo : Nat → List UInt8 → Option (List V)
  | _, [] => some []
  | 0, _ :: _ => none
  | k + 1, b :: l => match one (b :: l) with | none => none | some (v, n) => (decGo k ((b :: l).drop n)).map (v :: ·)
def decR (b : List UInt8) : List V × Int := match decGo 30 b with | some r => (r, 0) | none => ([], 22)

theorem scanT_cons {b : UInt8} (l : List UInt8) (h : b ≠ 0) : scanT (b :: l) = (scanT l).map fun p => (b :: p.1, p.2 + 1) := by
  cases l with
  | nil => simp [scanT]
  | cons c l => simp [scanT, h]
theorem scanT_esc : ∀ (t rest : List UInt8), scanT (esc t ++ 0 :: 0 :: rest) = some (t, (esc t).length + 2)
  | [], rest => by simp [esc, scanT]
  | b :: t, rest => by
    by_cases h : b = 0
    · subst h
      simp [esc, scanT, scanT_esc t rest]
    · simp only [esc, if_neg h, List.cons_append]
      rw [scanT_cons _ h, scanT_esc t rest]
      simp
theorem scanT_back : ∀ (n : Nat) (l : List UInt8) (t : List UInt8) (k : Nat), l.length ≤ n → scanT l = some (t, k) → l.take k = esc t ++ [0, 0] ∧ k ≤ l.length
  | n, [], t, k, _, h => by simp [scanT] at h
  | n, [b], t, k, _, h => by simp [scanT] at h
  | 0, _ :: _ :: _, _, _, hn, _ => by simp at hn
  | n + 1, b :: c :: l, t, k, hn, h => by
    by_cases hb : b = 0
    · subst hb
      simp only [scanT, if_true] at h
      split at h
      · rename_i hc; subst hc; cases h; simp [esc]
      · split at h
        · rename_i hc; subst hc
          obtain ⟨⟨t', k'⟩, h1, h2⟩ := Option.map_eq_some_iff.1 h
          cases h2
          obtain ⟨h3, h4⟩ := scanT_back n l t' k' (by simp at hn; omega) h1
          simp [esc, h3, h4]
        · cases h
    · rw [scanT_cons _ hb] at h
      obtain ⟨⟨t', k'⟩, h1, h2⟩ := Option.map_eq_some_iff.1 h
      cases h2
      obtain ⟨h3, h4⟩ := scanT_back n (c :: l) t' k' (by simp at hn ⊢; omega) h1
      refine ⟨?_, by simp at h4 ⊢; omega⟩
      rw [List.take_succ_cons, h3]
      simp [esc, hb]
theorem num8_be (N : Nat) (h : N < 18446744073709551616) : num8 (be64 N) = N := by
  simp [num8, be64, UInt8.toNat_ofNat']
  omega
theorem unbias_bias {i : Int} (h : -9223372036854775808 ≤ i ∧ i ≤ 9223372036854775807) : unbias (bias i) = i := by unfold unbias bias; omega
theorem be_num8 (l : List UInt8) (h : l.length = 8) : be64 (num8 l) = l ∧ num8 l < 18446744073709551616 := by
  match l, h with
  | [a, b, c, d, e, f, g, i], _ =>
    have ha := a.toNat_lt; have hb := b.toNat_lt; have hc := c.toNat_lt; have hd := d.toNat_lt; have he := e.toNat_lt; have hf := f.toNat_lt; have hg := g.toNat_lt; have hi := i.toNat_lt
    have hN : num8 [a, b, c, d, e, f, g, i] = ((((((a.toNat * 256 + b.toNat) * 256 + c.toNat) * 256 + d.toNat) * 256 + e.toNat) * 256 + f.toNat) * 256 + g.toNat) * 256 + i.toNat := by simp [num8]
    refine ⟨?_, by rw [hN]; omega⟩
    have hx : ∀ (x : UInt8) (n : Nat), n % 256 = x.toNat → UInt8.ofNat n = x := fun x n h => UInt8.toNat_inj.1 (by rw [UInt8.toNat_ofNat']; exact h)
    simp only [be64, List.map_cons, List.map_nil]
    rw [hN, hx a _ (by omega), hx b _ (by omega), hx c _ (by omega), hx d _ (by omega), hx e _ (by omega), hx f _ (by omega), hx g _ (by omega), hx i _ (by omega)]
theorem be64_len (N : Nat) : (be64 N).length = 8 := rfl
def wfVI (v : V) : Prop := -9223372036854775808 ≤ v.i ∧ v.i ≤ 9223372036854775807
theorem one_pack (v : V) (h : validV v = true) (hw : wfVI v) (rest : List UInt8) : one (packV v ++ rest) = some (v, (packV v).length) := by
  obtain ⟨vk, vi, vt⟩ := v
  unfold validV at h
  unfold packV
  dsimp only at h ⊢
  split at h
  · rename_i h1; subst h1
    have h : vt = ByteArray.empty := (toList_nil_iff_emptyBytes vt).1 (by simpa using h)
    simp only [if_true, List.cons_append, one]
    rw [if_neg (by simp [be64_len])]
    have e : (be64 (bias vi) ++ rest).take 8 = be64 (bias vi) := List.take_left' rfl
    rw [e, num8_be _ (bias_lt hw), unbias_bias hw, h]
    rfl
  · rename_i h1
    split at h
    · rename_i h2; subst h2
      split at h
      · rename_i h3
        have h4 : vi = 0 := by simpa using h3
        subst h4
        have h5 : vt.size ≤ 64 := by have : (vt.size : Int) ≤ 64 := by simpa using h
                                     omega
        simp only [if_neg h1, one, List.cons_append, List.append_assoc, List.nil_append]
        rw [scanT_esc]
        have h6 : vt.data.toList.length = vt.size := Array.length_toList
        simp [h6]
        omega
      · cases h
    · cases h
theorem packV_pos (v : V) : 0 < (packV v).length := by
  unfold packV; split <;> simp
theorem one_back (b : List UInt8) (v : V) (n : Nat) (h : one b = some (v, n)) : b.take n = packV v ∧ validV v = true ∧ wfVI v ∧ n ≤ b.length ∧ 0 < n := by
  cases b with
  | nil => simp [one] at h
  | cons x l =>
    simp only [one] at h
    split at h
    · rename_i h1; subst h1
      split at h
      · cases h
      · rename_i h2
        cases h
        obtain ⟨h3, h4⟩ := be_num8 (l.take 8) (by rw [List.length_take]; omega)
        have h5 : bias (unbias (num8 (l.take 8))) = num8 (l.take 8) := by unfold bias unbias; omega
        refine ⟨?_, ?_, ?_, by simp; omega, by omega⟩
        · simp only [packV, if_true, h5, h3, List.take_succ_cons]
        · simp [validV, (toList_nil_iff_emptyBytes ByteArray.empty).2 rfl]
        · unfold wfVI unbias; dsimp only; omega
    · split at h
      · rename_i h1 h2; subst h2
        split at h
        · rename_i t k hs
          split at h
          · cases h
          · rename_i h3
            cases h
            obtain ⟨h4, h5⟩ := scanT_back l.length l t k (Nat.le_refl _) hs
            refine ⟨?_, ?_, ?_, by simp; omega, by omega⟩
            · simp only [packV, List.take_succ_cons, h4]
              rw [if_neg (by decide)]
            · have h6 : (⟨t.toArray⟩ : ByteArray).size = t.length := List.size_toArray
              simp only [validV]
              rw [if_neg (by decide), h6]
              simp; omega
            · unfold wfVI; dsimp only; omega
        · cases h
      · cases h
theorem dec_pack : ∀ (k : Nat) (r : List V), r.all validV = true → (∀ v ∈ r, wfVI v) → r.length ≤ k → decGo k (packR r) = some r
  | _, [], _, _, _ => by simp [packR, decGo]
  | 0, _ :: _, _, _, h => by simp at h
  | k + 1, v :: r, hv, hw, h => by
    simp only [List.all_cons, Bool.and_eq_true] at hv
    have e : packR (v :: r) = packV v ++ packR r := by simp [packR]
    have h1 := one_pack v hv.1 (hw v (by simp)) (packR r)
    rw [e]
    cases hp : packV v ++ packR r with
    | nil => have := packV_pos v; have h0 := congrArg List.length hp; rw [List.length_append, List.length_nil] at h0; omega
    | cons b l =>
      rw [hp] at h1
      simp only [decGo, h1]
      rw [← hp, List.drop_left, dec_pack k r hv.2 (fun u hu => hw u (by simp [hu])) (by simp at h; omega)]
      rfl
theorem dec_back : ∀ (k : Nat) (b : List UInt8) (r : List V), decGo k b = some r → packR r = b ∧ r.all validV = true ∧ (∀ v ∈ r, wfVI v) ∧ r.length ≤ k
  | k, [], r, h => by cases k <;> (simp [decGo] at h; subst h; simp [packR])
  | 0, _ :: _, _, h => by simp [decGo] at h
  | k + 1, b :: l, r, h => by
    simp only [decGo] at h
    split at h
    · cases h
    · rename_i v n ho
      obtain ⟨r', h1, rfl⟩ := Option.map_eq_some_iff.1 h
      obtain ⟨h2, h3, h4, h5, h6⟩ := one_back _ _ _ ho
      obtain ⟨i1, i2, i3, i4⟩ := dec_back k _ r' h1
      refine ⟨?_, by simp [h3, i2], ?_, by simp; omega⟩
      · have e : packR (v :: r') = packV v ++ packR r' := by simp [packR]
        rw [e, i1, ← h2, List.take_append_drop]
      · intro u hu
        rcases List.mem_cons.1 hu with rfl | hu
        · exact h4
        · exact i3 u hu

def scanR : List UInt8 → List UInt8 × List UInt8
  | [] => ([], [])
  | [b] => ([b], [])
  | b :: c :: l => if b = 0 then (if c = 0 then ([], l) else (0 :: (scanR l).1, (scanR l).2)) else (b :: (scanR (c :: l)).1, (scanR (c :: l)).2)
def refGo : Nat → List UInt8 → Option (List V)
  | _, [] => some []
  | 0, _ :: _ => none
  | k + 1, b :: l =>
    if b = 1 ∧ 8 ≤ l.length then (refGo k (l.drop 8)).map (⟨1, unbias (num8 (l.take 8)), ByteArray.empty⟩ :: ·)
    else if b = 2 then (refGo k (scanR l).2).map (⟨2, 0, ⟨(scanR l).1.toArray⟩⟩ :: ·) else none
def refR (b : List UInt8) : List V × Int := match refGo 30 b with | none => ([], 22) | some r => if packRes r = (b, 0) then (r, 0) else ([], 22)
theorem scanR_cons {b : UInt8} (l : List UInt8) (h : b ≠ 0) : scanR (b :: l) = (b :: (scanR l).1, (scanR l).2) := by
  cases l with
  | nil => simp [scanR]
  | cons c l => simp [scanR, h]
theorem scanR_esc : ∀ (t rest : List UInt8), scanR (esc t ++ 0 :: 0 :: rest) = (t, rest)
  | [], rest => by simp [esc, scanR]
  | b :: t, rest => by
    by_cases h : b = 0
    · subst h
      simp [esc, scanR, scanR_esc t rest]
    · simp only [esc, if_neg h, List.cons_append]
      rw [scanR_cons _ h, scanR_esc t rest]
theorem ref_dec_pack : ∀ (k : Nat) (r : List V), r.all validV = true → (∀ v ∈ r, wfVI v) → r.length ≤ k → refGo k (packR r) = some r
  | _, [], _, _, _ => by simp [packR, refGo]
  | 0, _ :: _, _, _, h => by simp at h
  | k + 1, v :: r, hv, hw, hk => by
    simp only [List.all_cons, Bool.and_eq_true] at hv
    have ih := ref_dec_pack k r hv.2 (fun u hu => hw u (by simp [hu])) (by simp at hk; omega)
    have e : packR (v :: r) = packV v ++ packR r := by simp [packR]
    have hw0 := hw v (by simp)
    have h := hv.1
    obtain ⟨vk, vi, vt⟩ := v
    rw [e]
    unfold validV at h
    unfold packV
    dsimp only at h ⊢
    split at h
    · rename_i h1; subst h1
      have h : vt = ByteArray.empty := (toList_nil_iff_emptyBytes vt).1 (by simpa using h)
      simp only [if_true, List.cons_append, refGo]
      rw [if_pos ⟨trivial, by simp [be64_len]⟩]
      have e : (be64 (bias vi) ++ packR r).take 8 = be64 (bias vi) := List.take_left' rfl
      have e2 : (be64 (bias vi) ++ packR r).drop 8 = packR r := List.drop_left' rfl
      rw [e, e2, num8_be _ (bias_lt hw0), unbias_bias hw0, h, ih]
      rfl
    · rename_i h1
      split at h
      · rename_i h2; subst h2
        split at h
        · rename_i h3
          have h4 : vi = 0 := by simpa using h3
          subst h4
          simp only [if_neg h1, refGo, List.cons_append, List.append_assoc, List.nil_append]
          rw [scanR_esc, if_neg (by rintro ⟨h0, _⟩; cases h0), if_pos trivial, ih]
          rfl
        · cases h
      · cases h
theorem refGo_wf : ∀ (k : Nat) (b : List UInt8) (r : List V), refGo k b = some r → ∀ v ∈ r, wfVI v
  | k, [], r, h => by cases k <;> (simp [refGo] at h; subst h; simp)
  | 0, _ :: _, _, h => by simp [refGo] at h
  | k + 1, b :: l, r, h => by
    simp only [refGo] at h
    split at h
    · rename_i h0
      obtain ⟨r', h1, rfl⟩ := Option.map_eq_some_iff.1 h
      intro u hu
      rcases List.mem_cons.1 hu with rfl | hu
      · obtain ⟨h3, h4⟩ := be_num8 (l.take 8) (by rw [List.length_take]; omega)
        unfold wfVI unbias; dsimp only; omega
      · exact refGo_wf k _ r' h1 u hu
    · split at h
      · obtain ⟨r', h1, rfl⟩ := Option.map_eq_some_iff.1 h
        intro u hu
        rcases List.mem_cons.1 hu with rfl | hu
        · unfold wfVI; dsimp only; omega
        · exact refGo_wf k _ r' h1 u hu
      · cases h
theorem refR_eq (b : List UInt8) : refR b = decR b := by
  unfold decR
  cases hd : decGo 30 b with
  | some r =>
    obtain ⟨h1, h2, h3, h4⟩ := dec_back 30 b r hd
    subst h1
    have h5 : packRes r = (packR r, 0) := by
      unfold packRes
      rw [if_neg (by omega), if_pos (by simp only [validR, Bool.and_eq_true, decide_eq_true_eq]; exact ⟨h4, h2⟩)]
    simp only [refR, ref_dec_pack 30 r h2 h3 h4, h5, if_true]
  | none =>
    unfold refR
    cases hr : refGo 30 b with
    | none => rfl
    | some r =>
      dsimp only
      split
      · rename_i h
        have h2 : ¬ 30 < r.length ∧ validR r = true ∧ packR r = b := by
          unfold packRes at h
          split at h
          · cases h
          · rename_i h3
            split at h
            · rename_i h4; cases h; exact ⟨h3, h4, rfl⟩
            · cases h
        obtain ⟨h3, h4, rfl⟩ := h2
        simp only [validR, Bool.and_eq_true] at h4
        rw [dec_pack 30 r h4.2 (refGo_wf 30 _ r hr) (by omega)] at hd
        cases hd
      · rfl
end Go.Proofs.Ytahdiiaadjdmcaa

namespace Go.Proofs.Ytahdiiaadjdmcaa
open Classical

abbrev SRow : Type := Nat × List V
/-- the slot of the next row with the same key; -1: none -/
noncomputable def aheadK (g : List Nat) (r : List V) (P2 : List SRow) : Int := oi ((P2.find? fun p => decide (keyR g p.2 = keyR g r)).map (·.1))
def ahead0 (P2 : List SRow) : Int := oi (P2.head?.map (·.1))
noncomputable def aheads (gs : List (List Nat)) (r : List V) (P2 : List SRow) : List Int := ahead0 P2 :: gs.map fun g => aheadK g r P2
/-- the cells of a group -/
noncomputable def grpC (L k : Nat) (g : List Nat) (P : List SRow) (key : List V) : List Nat := (P.filter fun p => decide (keyR g p.2 = key)).map fun p => p.1 * L + (k + 1)
/-- grouping k's lists: (key, number) -/
structure LaneOk (L k : Nat) (g : List Nat) (P : List SRow) (D : List (List V × Nat)) (Gk : Ents) (cont : Nat → List Nat) : Prop where
  ents : List.Perm Gk (D.map fun d => (pk d.1, (d.2 : Int)))
  keys : (D.map (·.1)).Nodup
  mem : ∀ key, key ∈ D.map (·.1) ↔ ∃ p ∈ P, keyR g p.2 = key
  cont : ∀ d ∈ D, cont d.2 = grpC L k g P d.1
theorem grpC_append (L k : Nat) (g : List Nat) (P1 P2 : List SRow) (key : List V) : grpC L k g (P1 ++ P2) key = grpC L k g P1 key ++ grpC L k g P2 key := by simp [grpC]
theorem grpC_cons_eq (L k : Nat) (g : List Nat) (s : Nat) (r : List V) (P : List SRow) : grpC L k g ((s, r) :: P) (keyR g r) = (s * L + (k + 1)) :: grpC L k g P (keyR g r) := by simp [grpC]
theorem grpC_cons_ne (L k : Nat) (g : List Nat) (s : Nat) (r : List V) (P : List SRow) {key : List V} (h : keyR g r ≠ key) : grpC L k g ((s, r) :: P) key = grpC L k g P key := by simp [grpC, h]
theorem grpC_nil_iff (L k : Nat) (g : List Nat) (P : List SRow) (key : List V) : grpC L k g P key = [] ↔ ∀ p ∈ P, keyR g p.2 ≠ key := by simp [grpC]
/-- the next row with the same key heads its group's rest -/
theorem grpC_head (L k : Nat) (g : List Nat) (r : List V) (P : List SRow) : (grpC L k g P (keyR g r)).head? = ((P.find? fun p => decide (keyR g p.2 = keyR g r)).map (·.1)).map fun s => s * L + (k + 1) := by
  induction P with
  | nil => rfl
  | cons p P ih =>
    obtain ⟨s, q⟩ := p
    by_cases h : keyR g q = keyR g r
    · rw [← h, grpC_cons_eq]; simp
    · rw [grpC_cons_ne _ _ _ _ _ _ h, ih]; simp [h]
/-- a lane whose list is there already: the row is put into it -/
theorem LaneOk.old {L k : Nat} {g : List Nat} {P1 P2 : List SRow} {D : List (List V × Nat)} {Gk : Ents} {cont : Nat → List Nat} (h : LaneOk L k g (P1 ++ P2) D Gk cont) {s n : Nat} {r : List V} (hd : (keyR g r, n) ∈ D) (hinj : ∀ d ∈ D, ∀ e ∈ D, d.2 = e.2 → d = e) :
    LaneOk L k g (P1 ++ (s, r) :: P2) D Gk (upd cont n (grpC L k g P1 (keyR g r) ++ (s * L + (k + 1)) :: grpC L k g P2 (keyR g r))) := by
  refine ⟨h.ents, h.keys, fun key => ?_, fun d hd2 => ?_⟩
  · rw [h.mem key]
    constructor
    · rintro ⟨p, hp, e⟩
      refine ⟨p, ?_, e⟩
      rcases List.mem_append.1 hp with hp | hp
      · exact List.mem_append_left _ hp
      · exact List.mem_append_right _ (List.mem_cons_of_mem _ hp)
    · rintro ⟨p, hp, e⟩
      rcases List.mem_append.1 hp with hp | hp
      · exact ⟨p, List.mem_append_left _ hp, e⟩
      · rcases List.mem_cons.1 hp with rfl | hp
        · exact (h.mem key).1 (by rw [← e]; exact List.mem_map.2 ⟨_, hd, rfl⟩)
        · exact ⟨p, List.mem_append_right _ hp, e⟩
  · by_cases hn : d.2 = n
    · obtain rfl := hinj d hd2 _ hd hn
      simp only [upd, if_true]
      rw [grpC_append, grpC_cons_eq]
    · simp only [upd, if_neg hn]
      rw [h.cont d hd2, grpC_append, grpC_append]
      rw [grpC_cons_ne]
      intro e
      have h1 : d.1 = (keyR g r, n).1 := e.symm
      have h2 : d = (keyR g r, n) := by
        have h3 := h.keys
        obtain ⟨i, hi⟩ := List.mem_iff_getElem?.1 hd2
        obtain ⟨j, hj⟩ := List.mem_iff_getElem?.1 hd
        have h4 : (D.map (·.1))[i]? = (D.map (·.1))[j]? := by rw [List.getElem?_map, List.getElem?_map, hi, hj]; simp [h1]
        have h5 : i < (D.map (·.1)).length := by rw [List.length_map]; exact (List.getElem?_eq_some_iff.1 hi).1
        have h6 := (List.getElem?_inj h5 h3).1 h4
        subst h6
        exact Option.some.inj (hi.symm.trans hj)
      exact hn (by rw [h2])
/-- a list of another lane is written -/
theorem LaneOk.other {L k : Nat} {g : List Nat} {P : List SRow} {D : List (List V × Nat)} {Gk : Ents} {cont : Nat → List Nat} (h : LaneOk L k g P D Gk cont) {n : Nat} (hn : ∀ d ∈ D, d.2 ≠ n) (l : List Nat) : LaneOk L k g P D Gk (upd cont n l) :=
  ⟨h.ents, h.keys, h.mem, fun d hd => by simp only [upd, if_neg (hn d hd)]; exact h.cont d hd⟩
/-- a lane where the row's key is a new one -/
theorem LaneOk.new {L k : Nat} {g : List Nat} {P1 P2 : List SRow} {D : List (List V × Nat)} {Gk : Ents} {cont : Nat → List Nat} (h : LaneOk L k g (P1 ++ P2) D Gk cont) {s n : Nat} {r : List V} (hd : keyR g r ∉ D.map (·.1)) (hn : ∀ d ∈ D, d.2 ≠ n) :
    LaneOk L k g (P1 ++ (s, r) :: P2) ((keyR g r, n) :: D) ((pk (keyR g r), (n : Int)) :: Gk) (upd cont n [s * L + (k + 1)]) := by
  have hno : ∀ p ∈ P1 ++ P2, keyR g p.2 ≠ keyR g r := fun p hp e => hd ((h.mem _).2 ⟨p, hp, e⟩)
  have h1 : grpC L k g P1 (keyR g r) = [] := (grpC_nil_iff L k g P1 _).2 fun p hp => hno p (List.mem_append_left _ hp)
  have h2 : grpC L k g P2 (keyR g r) = [] := (grpC_nil_iff L k g P2 _).2 fun p hp => hno p (List.mem_append_right _ hp)
  refine ⟨?_, ?_, fun key => ?_, fun d hd2 => ?_⟩
  · simp only [List.map_cons]; exact h.ents.cons _
  · simp only [List.map_cons, List.nodup_cons]; exact ⟨hd, h.keys⟩
  · simp only [List.map_cons, List.mem_cons, h.mem key]
    constructor
    · rintro (rfl | ⟨p, hp, e⟩)
      · exact ⟨(s, r), List.mem_append_right _ (by simp), rfl⟩
      · refine ⟨p, ?_, e⟩
        rcases List.mem_append.1 hp with hp | hp
        · exact List.mem_append_left _ hp
        · exact List.mem_append_right _ (List.mem_cons_of_mem _ hp)
    · rintro ⟨p, hp, e⟩
      rcases List.mem_append.1 hp with hp | hp
      · exact .inr ⟨p, List.mem_append_left _ hp, e⟩
      · rcases List.mem_cons.1 hp with rfl | hp
        · exact .inl e.symm
        · exact .inr ⟨p, List.mem_append_right _ hp, e⟩
  · rcases List.mem_cons.1 hd2 with rfl | hd2
    · simp only [upd, if_true]
      rw [grpC_append, grpC_cons_eq, h1, h2]; rfl
    · simp only [upd, if_neg (hn d hd2)]
      rw [h.cont d hd2, grpC_append, grpC_append, grpC_cons_ne]
      intro e
      exact hd (by rw [e]; exact List.mem_map.2 ⟨d, hd2, rfl⟩)
theorem keys_inj {D : List (List V × Nat)} (h : (D.map (·.1)).Nodup) {d e : List V × Nat} (hd : d ∈ D) (he : e ∈ D) (h1 : d.1 = e.1) : d = e := by
  obtain ⟨i, hi⟩ := List.mem_iff_getElem?.1 hd
  obtain ⟨j, hj⟩ := List.mem_iff_getElem?.1 he
  have h4 : (D.map (·.1))[i]? = (D.map (·.1))[j]? := by rw [List.getElem?_map, List.getElem?_map, hi, hj]; simp [h1]
  have h5 : i < (D.map (·.1)).length := by rw [List.length_map]; exact (List.getElem?_eq_some_iff.1 hi).1
  have h6 := (List.getElem?_inj h5 h).1 h4
  subst h6
  exact Option.some.inj (hi.symm.trans hj)
/-- a row goes, others with its key stay -/
theorem LaneOk.shrink {L k : Nat} {g : List Nat} {P1 P2 : List SRow} {D : List (List V × Nat)} {Gk : Ents} {cont : Nat → List Nat} {s n : Nat} {r : List V} (h : LaneOk L k g (P1 ++ (s, r) :: P2) D Gk cont) (hd : (keyR g r, n) ∈ D) (hinj : ∀ d ∈ D, ∀ e ∈ D, d.2 = e.2 → d = e) (hst : ∃ p ∈ P1 ++ P2, keyR g p.2 = keyR g r) :
    LaneOk L k g (P1 ++ P2) D Gk (upd cont n (grpC L k g P1 (keyR g r) ++ grpC L k g P2 (keyR g r))) := by
  refine ⟨h.ents, h.keys, fun key => ?_, fun d hd2 => ?_⟩
  · rw [h.mem key]
    constructor
    · rintro ⟨p, hp, e⟩
      rcases List.mem_append.1 hp with hp | hp
      · exact ⟨p, List.mem_append_left _ hp, e⟩
      · rcases List.mem_cons.1 hp with rfl | hp
        · obtain ⟨q, hq, e2⟩ := hst
          exact ⟨q, hq, e2.trans e⟩
        · exact ⟨p, List.mem_append_right _ hp, e⟩
    · rintro ⟨p, hp, e⟩
      refine ⟨p, ?_, e⟩
      rcases List.mem_append.1 hp with hp | hp
      · exact List.mem_append_left _ hp
      · exact List.mem_append_right _ (List.mem_cons_of_mem _ hp)
  · by_cases hn : d.2 = n
    · obtain rfl := hinj d hd2 _ hd hn
      simp only [upd, if_true]
      rw [grpC_append]
    · simp only [upd, if_neg hn]
      rw [h.cont d hd2, grpC_append, grpC_append, grpC_cons_ne]
      intro e
      exact hn (by rw [keys_inj h.keys hd2 hd e.symm])
/-- a row goes, and with it its key's list -/
theorem LaneOk.gone {L k : Nat} {g : List Nat} {P1 P2 : List SRow} {D : List (List V × Nat)} {Gk G' : Ents} {cont : Nat → List Nat} {s n : Nat} {r : List V} (h : LaneOk L k g (P1 ++ (s, r) :: P2) D Gk cont) (hd : (keyR g r, n) ∈ D) (hinj : ∀ d ∈ D, ∀ e ∈ D, d.2 = e.2 → d = e) (hst : ∀ p ∈ P1 ++ P2, keyR g p.2 ≠ keyR g r) (hG : List.Perm Gk ((pk (keyR g r), (n : Int)) :: G')) (l : List Nat) :
    LaneOk L k g (P1 ++ P2) (D.erase (keyR g r, n)) G' (upd cont n l) := by
  have hp : List.Perm D ((keyR g r, n) :: D.erase (keyR g r, n)) := List.perm_cons_erase hd
  have hk := (hp.map (·.1)).nodup_iff.1 h.keys
  simp only [List.map_cons, List.nodup_cons] at hk
  refine ⟨?_, hk.2, fun key => ?_, fun d hd2 => ?_⟩
  · have h1 := hG.symm.trans (h.ents.trans (hp.map fun d => (pk d.1, (d.2 : Int))))
    simp only [List.map_cons] at h1
    exact (List.perm_cons _).1 h1
  · constructor
    · intro hm
      have h2 : key ∈ D.map (·.1) := (hp.map (·.1)).mem_iff.2 (by simp only [List.map_cons]; exact List.mem_cons_of_mem _ hm)
      obtain ⟨p, hp2, e⟩ := (h.mem key).1 h2
      rcases List.mem_append.1 hp2 with hp2 | hp2
      · exact ⟨p, List.mem_append_left _ hp2, e⟩
      · rcases List.mem_cons.1 hp2 with rfl | hp2
        · exact absurd (by rw [← e] at hm; exact hm) hk.1
        · exact ⟨p, List.mem_append_right _ hp2, e⟩
    · rintro ⟨p, hp2, e⟩
      have h2 : key ∈ D.map (·.1) := (h.mem key).2 ⟨p, by
        rcases List.mem_append.1 hp2 with hp2 | hp2
        · exact List.mem_append_left _ hp2
        · exact List.mem_append_right _ (List.mem_cons_of_mem _ hp2), e⟩
      have h3 := (hp.map (·.1)).mem_iff.1 h2
      simp only [List.map_cons, List.mem_cons] at h3
      rcases h3 with h3 | h3
      · exact absurd (e.trans h3) (hst p hp2)
      · exact h3
  · have hdD : d ∈ D := List.mem_of_mem_erase hd2
    have hn : d.2 ≠ n := fun e => by
      obtain rfl := hinj d hdD _ hd e
      exact hk.1 (List.mem_map.2 ⟨_, hd2, rfl⟩)
    simp only [upd, if_neg hn]
    rw [h.cont d hdD, grpC_append, grpC_append, grpC_cons_ne]
    intro e
    exact hn (by rw [keys_inj h.keys hdD hd e.symm])
/-- the rows and their slots -/
structure StRow (v : StV) : Prop where
  width : v.width ≤ 30
  most : 1 ≤ v.most ∧ v.most ≤ 65536
  gsl : v.gs.length ≤ 4
  gs : ∀ g ∈ v.gs, g.length ≤ 30 ∧ ∀ c ∈ g, c < v.width
  rows : ∀ p ∈ v.P, fitsR v.width p.2 = true ∧ smallR p.2 ∧ wfR p.2
  slots : (v.P.map (·.1)).Nodup
  vals : (v.P.map (·.2)).Nodup
  alive : ∀ i, (thg v.sl i).isSome = true ↔ i ∈ v.P.map (·.1)
  lv : v.lv = v.P.length
  refs : ∀ p ∈ v.P, v.refs p.1 = some (.agg #[.int .i64 p.1, .int .i64 (genA v.sl p.1 : Int)])
  ents : List.Perm v.E (v.P.map fun p => (pk p.2, (p.1 : Int)))
  gx : v.gx.length = v.gs.length
/-- the lists: lane l shows the rows Q l; D k: grouping k's keys with their lists' numbers -/
structure StLan (L : Nat) (gs : List (List Nat)) (G : Nat → Ents) (cont : Nat → List Nat) (sL : List (Slt Value)) (lL : Nat) (lrefs : IMap) (D : Nat → List (List V × Nat)) (Q : Nat → List SRow) : Prop where
  c0 : cont 0 = (Q 0).map fun p => p.1 * L
  lane : ∀ k g, gs[k]? = some g → LaneOk L k g (Q (k + 1)) (D k) (G k) cont
  nums : ∀ k j d e, k < gs.length → j < gs.length → d ∈ D k → e ∈ D j → d.2 = e.2 → k = j ∧ d = e
  lists : ∀ k d, k < gs.length → d ∈ D k → 1 ≤ d.2 ∧ (thg sL (d.2 - 1)).isSome = true ∧ lrefs (d.2 - 1) = some (.agg #[.int .i64 (d.2 - 1 : Nat), .int .i64 (genA sL (d.2 - 1) : Int)])
  dead : ∀ n, 1 ≤ n → (∀ k d, k < gs.length → d ∈ D k → d.2 ≠ n) → cont n = []
  lL : lL = ((List.range gs.length).map fun k => (D k).length).sum
/-- bounds of the generations -/
structure StGen (sl sL : List (Slt Value)) (N : Nat) : Prop where
  s : ∀ i, genA sl i + (if (thg sl i).isSome then 0 else 1) ≤ N
  L : ∀ i, genA sL i + (if (thg sL i).isSome then 0 else 1) ≤ N
theorem esc_le : ∀ l : List UInt8, (esc l).length ≤ 2 * l.length
  | [] => Nat.le_refl _
  | a :: l => by
    have := esc_le l
    have h : esc (a :: l) = esc [a] ++ esc l := esc_append [a] l
    rw [h, List.length_append]
    have h1 : (esc [a]).length ≤ 2 := by
      simp only [esc]
      split <;> simp [esc]
    simp only [List.length_cons]; omega
theorem packV_le {v : V} (h : validV v = true) : (packV v).length ≤ 131 := by
  unfold packV
  unfold validV at h
  split
  · simp [be64]
  · rename_i hk
    rw [if_neg hk] at h
    split at h
    · split at h
      · have h1 := of_decide_eq_true h
        have h2 := esc_le v.t.data.toList
        have h3 : v.t.data.toList.length = v.t.size := rfl
        simp only [List.length_cons, List.length_append, List.length_nil]
        omega
      · cases h
    · cases h
theorem pk_le (r : List V) : (pk r).length ≤ 4096 := by
  unfold pk packRes
  split
  · simp
  · rename_i hl
    split
    · rename_i hv
      unfold validR at hv
      rw [Bool.and_eq_true] at hv
      have : ∀ l : List V, l.all validV = true → (packR l).length ≤ 131 * l.length := fun l => by
        induction l with
        | nil => intro _; simp [packR]
        | cons a l ih =>
          intro h
          rw [List.all_cons, Bool.and_eq_true] at h
          have h1 := ih h.2
          have h2 := packV_le h.1
          have e : packR (a :: l) = packV a ++ packR l := rfl
          rw [e, List.length_append, List.length_cons]; omega
      have h1 := this r hv.2
      simp only; omega
    · simp
theorem pk_valid {r : List V} (hv : validR r = true) : pk r = packR r := by
  have h1 := hv
  simp only [validR, Bool.and_eq_true, decide_eq_true_eq] at h1
  simp only [pk, packRes, if_neg (show ¬ 30 < r.length by omega), hv, if_true]
/-- rows with one pack are one row -/
theorem pk_inj {r q : List V} (hr : validR r = true) (wr : wfR r) (hq : validR q = true) (wq : wfR q) (h : pk r = pk q) : r = q := by
  rw [pk_valid hr, pk_valid hq] at h
  have d : ∀ r : List V, validR r = true → wfR r → decR (packR r) = (r, 0) := fun r hv hw => by
    simp only [validR, Bool.and_eq_true, decide_eq_true_eq] at hv
    rw [decR, dec_pack 30 r hv.2 (fun v hv => (hw v hv).2) hv.1]
  have h1 := d r hr wr
  rw [h, d q hq wq] at h1
  exact (congrArg Prod.fst h1).symm
end Go.Proofs.Ytahdiiaadjdmcaa

namespace Go.Proofs.Ytahdiiaadjdmcaa
open Classical

theorem nodup_of_map {α β : Type} {f : α → β} : ∀ {l : List α}, (l.map f).Nodup → l.Nodup
  | [], _ => List.nodup_nil
  | a :: l, h => by
    rw [List.map_cons, List.nodup_cons] at h
    exact List.nodup_cons.2 ⟨fun h1 => h.1 (List.mem_map.2 ⟨a, h1, rfl⟩), nodup_of_map h.2⟩
theorem nodup_sub_len {α : Type} : ∀ {l m : List α}, l.Nodup → (∀ a ∈ l, a ∈ m) → l.length ≤ m.length
  | [], _, _, _ => Nat.zero_le _
  | a :: l, m, h, hs => by
    rw [List.nodup_cons] at h
    have h1 := nodup_sub_len (m := m.erase a) h.2 fun b hb => (List.mem_erase_of_ne (show b ≠ a from fun e => h.1 (e ▸ hb))).2 (hs b (List.mem_cons_of_mem _ hb))
    have h2 := hs a (List.mem_cons_self ..)
    rw [List.length_erase_of_mem h2] at h1
    have h3 := List.length_pos_of_mem h2
    simp only [List.length_cons]; omega
/-! a row's key -/
theorem projGo_in (r : List V) : ∀ g : List Nat, (∀ c ∈ g, c < r.length) → ∃ l, projGo r (g.map Int.ofNat) = some l ∧ l.length = g.length ∧ ∀ v ∈ l, v ∈ r
  | [], _ => ⟨[], rfl, rfl, fun v hv => by cases hv⟩
  | c :: g, h => by
    obtain ⟨l, h1, h2, h3⟩ := projGo_in r g fun d hd => h d (List.mem_cons_of_mem _ hd)
    have hc : c < r.length := h c (List.mem_cons_self ..)
    refine ⟨r[c] :: l, ?_, by simp [h2], fun v hv => ?_⟩
    · simp only [List.map_cons, projGo, h1]
      rw [if_neg (by simp; omega)]
      simp [hc]
    · rcases List.mem_cons.1 hv with rfl | hv
      · exact List.getElem_mem hc
      · exact h3 v hv
structure KeyGood (g : List Nat) (key : List V) : Prop where
  len : key.length = g.length
  ok : validR key = true
  small : smallR key
  wf : wfR key
theorem keyR_good {width : Nat} {g : List Nat} {r : List V} (hf : fitsR width r = true) (hs : smallR r) (hw : wfR r) (hg : g.length ≤ 30) (hc : ∀ c ∈ g, c < width) : KeyGood g (keyR g r) := by
  unfold fitsR at hf
  rw [Bool.and_eq_true, decide_eq_true_eq] at hf
  obtain ⟨rfl, hv⟩ := hf
  obtain ⟨l, h1, h2, h3⟩ := projGo_in r g hc
  have e : keyR g r = l := by
    unfold keyR projR
    rw [if_neg (by simp; omega), h1]
  rw [e]
  unfold validR at hv
  rw [Bool.and_eq_true, decide_eq_true_eq] at hv
  refine ⟨h2, ?_, fun v hv2 => hs v (h3 v hv2), fun v hv2 => hw v (h3 v hv2)⟩
  unfold validR
  rw [Bool.and_eq_true, decide_eq_true_eq]
  exact ⟨by omega, List.all_eq_true.2 fun v hv2 => List.all_eq_true.1 hv.2 v (h3 v hv2)⟩

section
variable {L : Nat} {gs : List (List Nat)} {G : Nat → Ents} {cont : Nat → List Nat} {sL : List (Slt Value)} {lL : Nat} {lrefs : IMap} {D : Nat → List (List V × Nat)} {Q : Nat → List SRow}
theorem lane_cell {a b i j L : Nat} (hi : i < L) (hj : j < L) (h : a * L + i = b * L + j) : a = b ∧ i = j := by
  have h1 : (a * L + i) / L = (b * L + j) / L := by rw [h]
  have h2 : ∀ c k, k < L → (c * L + k) / L = c := fun c k hk => by
    rw [Nat.mul_comm, Nat.mul_add_div (by omega), Nat.div_eq_of_lt hk, Nat.add_zero]
  rw [h2 a i hi, h2 b j hj] at h1
  subst h1
  exact ⟨rfl, by omega⟩
/-- what stands in a list -/
theorem StLan.cells (h : StLan L gs G cont sL lL lrefs D Q) {m c : Nat} (hc : c ∈ cont m) : ∃ l p, l ≤ gs.length ∧ p ∈ Q l ∧ c = p.1 * L + l := by
  rcases Nat.eq_zero_or_pos m with rfl | hm
  · rw [h.c0, List.mem_map] at hc
    obtain ⟨p, hp, rfl⟩ := hc
    exact ⟨0, p, Nat.zero_le _, hp, rfl⟩
  · by_cases hd : ∀ k d, k < gs.length → d ∈ D k → d.2 ≠ m
    · rw [h.dead m hm hd] at hc; cases hc
    · have : ∃ k d, k < gs.length ∧ d ∈ D k ∧ d.2 = m := by
        apply Classical.byContradiction
        intro hn
        exact hd fun k d hk hd2 e => hn ⟨k, d, hk, hd2, e⟩
      obtain ⟨k, d, hk, hd2, rfl⟩ := this
      rw [(h.lane k _ (List.getElem?_eq_getElem hk)).cont d hd2] at hc
      unfold grpC at hc
      rw [List.mem_map] at hc
      obtain ⟨p, hp, rfl⟩ := hc
      exact ⟨k + 1, p, hk, (List.mem_filter.1 hp).1, rfl⟩
theorem StLan.congrQ (h : StLan L gs G cont sL lL lrefs D Q) {Q' : Nat → List SRow} (hQ : ∀ l, l ≤ gs.length → Q l = Q' l) : StLan L gs G cont sL lL lrefs D Q' :=
  ⟨by rw [← hQ 0 (Nat.zero_le _)]; exact h.c0, fun k g hg => by rw [← hQ (k + 1) (List.getElem?_eq_some_iff.1 hg).1]; exact h.lane k g hg, h.nums, h.lists, h.dead, h.lL⟩
/-- a new cell stands in no list -/
theorem StLan.fresh (h : StLan L gs G cont sL lL lrefs D Q) (hL : L = gs.length + 1) {s l : Nat} (hl : l ≤ gs.length) (hs : ∀ p ∈ Q l, p.1 ≠ s) (m : Nat) : s * L + l ∉ cont m := fun hc => by
  obtain ⟨j, p, hj, hp, e⟩ := h.cells hc
  obtain ⟨rfl, rfl⟩ := lane_cell (by omega) (by omega) e
  exact hs p hp rfl
theorem gs_lt {k : Nat} {g : List Nat} (h : gs[k]? = some g) : k < gs.length := (List.getElem?_eq_some_iff.1 h).1
/-- the whole order's list is another -/
theorem StLan.step0 (h : StLan L gs G cont sL lL lrefs D Q) (P : List SRow) : StLan L gs G (upd cont 0 (P.map fun p => p.1 * L)) sL lL lrefs D (upd Q 0 P) := by
  refine ⟨by rw [upd_same, upd_same], fun k g hg => ?_, h.nums, h.lists, fun n hn hd => ?_, h.lL⟩
  · rw [upd_ne _ _ (by omega)]
    exact (h.lane k g hg).other (fun d hd => by have := (h.lists k d (gs_lt hg) hd).1; omega) _
  · rw [upd_ne _ _ (by omega)]; exact h.dead n hn hd
/-- one lane's lists are others, the lists' numbers stay -/
theorem StLan.step (h : StLan L gs G cont sL lL lrefs D Q) {k n : Nat} {key : List V} (hk : k < gs.length) (hd : (key, n) ∈ D k) {P : List SRow} {l : List Nat} (hlane : ∀ g, gs[k]? = some g → LaneOk L k g P (D k) (G k) (upd cont n l)) :
    StLan L gs G (upd cont n l) sL lL lrefs D (upd Q (k + 1) P) := by
  have hn1 := (h.lists k _ hk hd).1
  refine ⟨?_, fun j g hg => ?_, h.nums, h.lists, fun m hm hd2 => ?_, h.lL⟩
  · rw [upd_ne _ _ (show 0 ≠ n from fun e => by simp only at hn1; omega), upd_ne _ _ (by omega)]; exact h.c0
  · by_cases hj : j = k
    · subst hj
      rw [upd_same]
      exact hlane g hg
    · rw [upd_ne _ _ (show j + 1 ≠ k + 1 by omega)]
      exact (h.lane j g hg).other (fun e he e2 => hj (h.nums j k e _ (gs_lt hg) hk he hd e2).1) _
  · rw [upd_ne _ _ (fun e => hd2 k _ hk hd e.symm)]; exact h.dead m hm hd2
theorem sum_upd {f : Nat → Nat} {f' : Nat → Nat} {k : Nat} (hf : ∀ j, j ≠ k → f' j = f j) : ∀ n, k < n → ((List.range n).map f').sum + f k = ((List.range n).map f).sum + f' k
  | 0, h => absurd h (by omega)
  | n + 1, h => by
    simp only [List.range_succ, List.map_append, List.sum_append, List.map_cons, List.map_nil, List.sum_cons, List.sum_nil]
    by_cases hn : k = n
    · subst hn
      have : (List.range k).map f' = (List.range k).map f := List.map_congr_left fun j hj => hf j (by have := List.mem_range.1 hj; omega)
      rw [this]; omega
    · have := sum_upd hf n (by omega)
      rw [hf n (by omega)]; omega
/-- a new list in lane k -/
theorem StLan.stepNew (h : StLan L gs G cont sL lL lrefs D Q) {k i most : Nat} {key : List V} (hk : k < gs.length) {fL fL' : List Nat} {sL' : List (Slt Value)} {u : Value} (ht : TookI most sL fL u i sL' fL') (hi : thg sL i = none) {Gk : Ents} {P : List SRow} {l : List Nat}
    (hlane : ∀ g, gs[k]? = some g → LaneOk L k g P ((key, i + 1) :: D k) Gk (upd cont (i + 1) l)) :
    StLan L gs (updG G k Gk) (upd cont (i + 1) l) sL' (lL + 1) (lrefs.put i (.agg #[.int .i64 i, .int .i64 ((genA sL i : Nat) + 1 : Int)])) (upd D k ((key, i + 1) :: D k)) (upd Q (k + 1) P) := by
  have hnew : ∀ j d, j < gs.length → d ∈ D j → d.2 ≠ i + 1 := fun j d hj hd e => by
    have h1 := (h.lists j d hj hd).2.1
    rw [e, Nat.add_sub_cancel, hi] at h1
    cases h1
  refine ⟨?_, fun j g hg => ?_, fun a b d e ha hb hd he hde => ?_, fun j d hj hd => ?_, fun m hm hd2 => ?_, ?_⟩
  · rw [upd_ne _ _ (by omega), upd_ne _ _ (by omega)]; exact h.c0
  · by_cases hj : j = k
    · subst hj
      rw [upd_same, upd_same]
      simp only [updG, if_true]
      exact hlane g hg
    · rw [upd_ne _ _ (show j + 1 ≠ k + 1 by omega), upd_ne _ _ hj]
      simp only [updG, if_neg hj]
      exact (h.lane j g hg).other (fun e he => hnew j e (gs_lt hg) he) _
  · by_cases hak : a = k
    · subst hak
      rw [upd_same] at hd
      by_cases hbk : b = a
      · subst hbk
        rw [upd_same] at he
        rcases List.mem_cons.1 hd with rfl | hd
        · rcases List.mem_cons.1 he with rfl | he
          · exact ⟨rfl, rfl⟩
          · exact absurd hde.symm (hnew _ e hb he)
        · rcases List.mem_cons.1 he with rfl | he
          · exact absurd hde (hnew _ d hb hd)
          · exact h.nums _ _ d e ha hb hd he hde
      · rw [upd_ne _ _ hbk] at he
        rcases List.mem_cons.1 hd with rfl | hd
        · exact absurd hde.symm (hnew _ e hb he)
        · exact h.nums _ _ d e ha hb hd he hde
    · rw [upd_ne _ _ hak] at hd
      by_cases hbk : b = k
      · subst hbk
        rw [upd_same] at he
        rcases List.mem_cons.1 he with rfl | he
        · exact absurd hde (hnew _ d ha hd)
        · exact h.nums _ _ d e ha hb hd he hde
      · rw [upd_ne _ _ hbk] at he
        exact h.nums _ _ d e ha hb hd he hde
  · have hold : ∀ d, d ∈ D j → 1 ≤ d.2 ∧ (thg sL' (d.2 - 1)).isSome = true ∧ (lrefs.put i (.agg #[.int .i64 i, .int .i64 ((genA sL i : Nat) + 1 : Int)])) (d.2 - 1) = some (.agg #[.int .i64 (d.2 - 1 : Nat), .int .i64 (genA sL' (d.2 - 1) : Int)]) := fun d hd => by
      obtain ⟨h1, h2, h3⟩ := h.lists j d hj hd
      have hne : d.2 - 1 ≠ i := fun e => hnew j d hj hd (by omega)
      refine ⟨h1, by rw [ht.th, if_neg hne]; exact h2, ?_⟩
      rw [ht.ge, if_neg hne, IMap.put, if_neg hne]
      exact h3
    by_cases hjk : j = k
    · subst hjk
      rw [upd_same] at hd
      rcases List.mem_cons.1 hd with rfl | hd
      · refine ⟨by simp, by rw [ht.th]; simp, ?_⟩
        rw [ht.ge]
        simp [IMap.put]
      · exact hold d hd
    · rw [upd_ne _ _ hjk] at hd
      exact hold d hd
  · have hm1 : m ≠ i + 1 := fun e => hd2 k (key, i + 1) hk (by rw [upd_same]; exact List.mem_cons_self ..) e.symm
    rw [upd_ne _ _ hm1]
    refine h.dead m hm fun j d hj hd => hd2 j d hj ?_
    by_cases hjk : j = k
    · subst hjk; rw [upd_same]; exact List.mem_cons_of_mem _ hd
    · rw [upd_ne _ _ hjk]; exact hd
  · have h1 := sum_upd (f := fun j => (D j).length) (f' := fun j => (upd D k ((key, i + 1) :: D k) j).length) (k := k) (fun j hj => by rw [upd_ne _ _ hj]) gs.length hk
    simp only [upd_same, List.length_cons] at h1
    have h2 := h.lL
    omega
/-- lane k loses a list -/
theorem StLan.stepGone (h : StLan L gs G cont sL lL lrefs D Q) {k i gn : Nat} {key : List V} {u : Value} (hk : k < gs.length) (hd : (key, i + 1) ∈ D k) (hs : sL[i]? = some (gn, some u)) {Gk : Ents} {P : List SRow}
    (hlane : ∀ g, gs[k]? = some g → LaneOk L k g P ((D k).erase (key, i + 1)) Gk (upd cont (i + 1) [])) :
    StLan L gs (updG G k Gk) (upd cont (i + 1) []) (sL.set i (gn, none)) (lL - 1) (lrefs.del i) (upd D k ((D k).erase (key, i + 1))) (upd Q (k + 1) P) := by
  have hil := (List.getElem?_eq_some_iff.1 hs).1
  have hsub : ∀ j d, d ∈ upd D k ((D k).erase (key, i + 1)) j → d ∈ D j := fun j d hd2 => by
    by_cases hj : j = k
    · subst hj; rw [upd_same] at hd2; exact List.mem_of_mem_erase hd2
    · rw [upd_ne _ _ hj] at hd2; exact hd2
  have hg0 : ∃ g, gs[k]? = some g := ⟨_, List.getElem?_eq_getElem hk⟩
  obtain ⟨g0, hg0⟩ := hg0
  have hnd : (D k).Nodup := by
    exact nodup_of_map (h.lane k g0 hg0).keys
  have hnew : ∀ j d, j < gs.length → d ∈ upd D k ((D k).erase (key, i + 1)) j → d.2 ≠ i + 1 := fun j d hj hd2 e => by
    obtain ⟨rfl, rfl⟩ := h.nums j k d _ hj hk (hsub j d hd2) hd e
    rw [upd_same] at hd2
    exact (List.Nodup.mem_erase_iff hnd).1 hd2 |>.1 rfl
  refine ⟨?_, fun j g hg => ?_, fun a b d e ha hb hd he hde => h.nums a b d e ha hb (hsub a d hd) (hsub b e he) hde, fun j d hj hd2 => ?_, fun m hm hd2 => ?_, ?_⟩
  · rw [upd_ne _ _ (by omega), upd_ne _ _ (by omega)]; exact h.c0
  · by_cases hj : j = k
    · subst hj
      rw [upd_same, upd_same]
      simp only [updG, if_true]
      exact hlane g hg
    · rw [upd_ne _ _ (show j + 1 ≠ k + 1 by omega), upd_ne _ _ hj]
      simp only [updG, if_neg hj]
      exact (h.lane j g hg).other (fun e he e2 => hj (h.nums j k e _ (gs_lt hg) hk he hd e2).1) _
  · obtain ⟨h1, h2, h3⟩ := h.lists j d hj (hsub j d hd2)
    have hne : d.2 - 1 ≠ i := fun e => hnew j d hj hd2 (by omega)
    refine ⟨h1, by rw [thg_set hil, if_neg hne]; exact h2, ?_⟩
    rw [genA_set hil, if_neg hne, IMap.del, if_neg hne]
    exact h3
  · by_cases hm1 : m = i + 1
    · subst hm1; rw [upd_same]
    · rw [upd_ne _ _ hm1]
      refine h.dead m hm fun j d hj hd3 e => ?_
      refine hd2 j d hj ?_ e
      by_cases hjk : j = k
      · subst hjk; rw [upd_same]
        exact (List.Nodup.mem_erase_iff hnd).2 ⟨fun e2 => hm1 (by rw [← e, e2]), hd3⟩
      · rw [upd_ne _ _ hjk]; exact hd3
  · have h1 := sum_upd (f := fun j => (D j).length) (f' := fun j => (upd D k ((D k).erase (key, i + 1)) j).length) (k := k) (fun j hj => by rw [upd_ne _ _ hj]) gs.length hk
    have h4 := List.length_erase_of_mem hd
    have h5 := List.length_pos_of_mem hd
    simp only [upd_same] at h1
    have h2 := h.lL
    omega
/-- how many lists there are -/
theorem LaneOk.len_le {k : Nat} {g : List Nat} {P : List SRow} {E : List (List V × Nat)} {Gk : Ents} (h : LaneOk L k g P E Gk cont) : E.length ≤ P.length := by
  have h1 : (E.map (·.1)).length ≤ (P.map fun p => keyR g p.2).length := by
    refine nodup_sub_len h.keys fun key hk => ?_
    obtain ⟨p, hp, e⟩ := (h.mem key).1 hk
    exact List.mem_map.2 ⟨p, hp, e⟩
  simpa using h1
theorem sum_le {f : Nat → Nat} {m : Nat} : ∀ n, (∀ k, k < n → f k ≤ m) → ((List.range n).map f).sum ≤ n * m
  | 0, _ => by simp
  | n + 1, h => by
    simp only [List.range_succ, List.map_append, List.sum_append, List.map_cons, List.map_nil, List.sum_cons, List.sum_nil]
    have h1 := sum_le n fun k hk => h k (by omega)
    have h2 := h n (by omega)
    rw [Nat.succ_mul]; omega
theorem StLan.lL_le (h : StLan L gs G cont sL lL lrefs D Q) {m : Nat} (hQ : ∀ l, (Q l).length ≤ m) : lL ≤ gs.length * m := by
  rw [h.lL]
  refine sum_le _ fun k hk => ?_
  exact Nat.le_trans (h.lane k _ (List.getElem?_eq_getElem hk)).len_le (hQ _)
/-- a key's entry -/
theorem LaneOk.entry {k : Nat} {g : List Nat} {P : List SRow} {E : List (List V × Nat)} {Gk : Ents} (h : LaneOk L k g P E Gk cont) (hE : ∀ d ∈ E, KeyGood g d.1) {key : List V} (hk : KeyGood g key) {z : Int} : (pk key, z) ∈ Gk ↔ ∃ n : Nat, (key, n) ∈ E ∧ z = n := by
  rw [h.ents.mem_iff, List.mem_map]
  constructor
  · rintro ⟨d, hd, e⟩
    injection e with e1 e2
    have hd2 := hE d hd
    obtain rfl := pk_inj hd2.ok hd2.wf hk.ok hk.wf e1
    exact ⟨d.2, hd, e2.symm⟩
  · rintro ⟨n, hn, rfl⟩
    exact ⟨_, hn, rfl⟩
end
end Go.Proofs.Ytahdiiaadjdmcaa

namespace Go.Proofs.Ytahdiiaadjdmcaa
open Go.RowKit

theorem thg_lt {τ : Type} {sl : List (Slt τ)} {i : Nat} (h : (thg sl i).isSome = true) : i < sl.length := by
  rcases Nat.lt_or_ge i sl.length with h1 | h1
  · exact h1
  · unfold thg at h
    rw [List.getElem?_eq_none h1] at h
    cases h
/-- what stays while a store is changed -/
structure Kept (v v' : StV) : Prop where
  x : v'.x = v.x
  width : v'.width = v.width
  most : v'.most = v.most
  gs : v'.gs = v.gs
  marked : v'.marked = v.marked
  uA : v'.uA = v.uA
  uC : v'.uC = v.uC
  un : v'.un = v.un
  U : v'.U = v.U
theorem Kept.refl (v : StV) : Kept v v := ⟨rfl, rfl, rfl, rfl, rfl, rfl, rfl, rfl, rfl⟩
theorem Kept.trans {a b c : StV} (h : Kept a b) (k : Kept b c) : Kept a c :=
  ⟨k.x.trans h.x, k.width.trans h.width, k.most.trans h.most, k.gs.trans h.gs, k.marked.trans h.marked, k.uA.trans h.uA, k.uC.trans h.uC, k.un.trans h.un, k.U.trans h.U⟩
theorem Kept.L {v v' : StV} (h : Kept v v') : v'.L = v.L := by unfold StV.L; rw [h.gs]
/-- lane j shows the new rows from lane 0 to lane l -/
def Ql (P P' : List SRow) (l : Nat) : Nat → List SRow := fun j => if j < l then P' else P
theorem Ql_zero (P P' : List SRow) : Ql P P' 0 = fun _ => P := by funext j; simp [Ql]
theorem Ql_upd (P P' : List SRow) (l : Nat) : upd (Ql P P' l) l P' = Ql P P' (l + 1) := by
  funext j
  unfold upd Ql
  by_cases h1 : j = l
  · subst h1; simp
  · rw [if_neg h1]
    by_cases h2 : j < l
    · rw [if_pos h2, if_pos (by omega)]
    · rw [if_neg h2, if_neg (by omega)]
theorem Ql_at (P P' : List SRow) (l : Nat) : Ql P P' l l = P := by simp [Ql]
/-- the list that lane l's cell goes into -/
structure Bridge (v v' : StV) (Q' : Nat → List SRow) (nL : Nat) (C1 C2 : List Nat) (cell N : Nat) : Prop where
  kept : Kept v v'
  row : StRow v'
  P : v'.P = v.P
  sl : v'.sl = v.sl
  fr : v'.fr = v.fr
  K : v'.K ≤ v.K + 3
  nb : nL < v.most * v.L + 1
  cont : v'.cont nL = C1 ++ C2
  fresh : ∀ m, cell ∉ v'.cont m
  fin : ∃ D', StLan v'.L v'.gs v'.G (upd v'.cont nL (C1 ++ cell :: C2)) v'.sL v'.lL v'.lrefs D' Q'
  gen : StGen v'.sl v'.sL N
/-- all that is known of a store at rest -/
structure StAt (v : StV) (D : Nat → List (List V × Nat)) (N : Nat) : Prop where
  row : StRow v
  lan : StLan v.L v.gs v.G v.cont v.sL v.lL v.lrefs D (fun _ => v.P)
  gen : StGen v.sl v.sL N
theorem StGen.lt {sl sL : List (Slt Value)} {N : Nat} (h : StGen sl sL N) (hN : N < 1073741824) : (∀ i, genA sl i < 1073741824) ∧ ∀ i, genA sL i < 1073741824 :=
  ⟨fun i => by have := h.s i; omega, fun i => by have := h.L i; omega⟩
theorem gs_good {v : StV} (h : StRow v) {k : Nat} {g : List Nat} (hg : v.gs[k]? = some g) {r : List V} (hf : fitsR v.width r = true) (hs : smallR r) (hw : wfR r) : KeyGood g (keyR g r) :=
  have h1 := h.gs g (List.mem_of_getElem? hg)
  keyR_good hf hs hw h1.1 h1.2
/-- a list that is taken: the generations -/
theorem StGen.took {sl sL sL' : List (Slt Value)} {N most i : Nat} {fL fL' : List Nat} {u : Value} (h : StGen sl sL N) (ht : TookI most sL fL u i sL' fL') (hi : thg sL i = none) : StGen sl sL' N := by
  refine ⟨h.s, fun j => ?_⟩
  have h1 := h.L j
  rw [ht.th, ht.ge]
  by_cases hj : j = i
  · subst hj
    rw [hi] at h1
    simp at h1 ⊢; omega
  · rw [if_neg hj, if_neg hj]; exact h1
theorem StGen.tookR {sl sl' sL : List (Slt Value)} {N most i : Nat} {fr fr' : List Nat} {u : Value} (h : StGen sl sL N) (ht : TookR most sl fr u i sl' fr') (hi : thg sl i = none) : StGen sl' sL N := by
  refine ⟨fun j => ?_, h.L⟩
  have h1 := h.s j
  rw [ht.th, ht.ge]
  by_cases hj : j = i
  · subst hj
    rw [hi] at h1
    simp at h1 ⊢; omega
  · rw [if_neg hj, if_neg hj]; exact h1
theorem StRow.keys {v : StV} (h : StRow v) {k : Nat} {g : List Nat} (hg : v.gs[k]? = some g) {P : List SRow} {E : List (List V × Nat)} {L : Nat} {Gk : Ents} {cont : Nat → List Nat} (hl : LaneOk L k g P E Gk cont) (hP : ∀ p ∈ P, fitsR v.width p.2 = true ∧ smallR p.2 ∧ wfR p.2) : ∀ d ∈ E, KeyGood g d.1 := fun d hd => by
  obtain ⟨p, hp, e⟩ := (hl.mem d.1).1 (List.mem_map.2 ⟨d, hd, rfl⟩)
  obtain ⟨h1, h2, h3⟩ := hP p hp
  rw [← e]
  exact gs_good h hg h1 h2 h3
theorem LaneOk.one {L k : Nat} {g : List Nat} {P : List SRow} {E : List (List V × Nat)} {Gk : Ents} {cont : Nat → List Nat} (h : LaneOk L k g P E Gk cont) (hE : ∀ d ∈ E, KeyGood g d.1) {key : List V} (hk : KeyGood g key) : ∀ a b, (pk key, a) ∈ Gk → (pk key, b) ∈ Gk → a = b := fun a b ha hb => by
  obtain ⟨n, hn, rfl⟩ := (h.entry hE hk).1 ha
  obtain ⟨m, hm, rfl⟩ := (h.entry hE hk).1 hb
  have := keys_inj h.keys hn hm rfl
  injection this with _ h2
  rw [h2]
theorem LaneOk.fun_ {L k : Nat} {g : List Nat} {P : List SRow} {E : List (List V × Nat)} {Gk : Ents} {cont : Nat → List Nat} (h : LaneOk L k g P E Gk cont) : Gk.length = E.length := by
  rw [h.ents.length_eq, List.length_map]

set_option maxRecDepth 100000 in
/-- the list of lane k's key, made if need be -/
theorem open_lane {w : World} {lab : Lab} {v : StV} {D : Nat → List (List V × Nat)} {Q : Nat → List SRow} {N : Nat} (h : StM w lab v) (hr : StRow v) (hlan : StLan v.L v.gs v.G v.cont v.sL v.lL v.lrefs D Q) (hgen : StGen v.sl v.sL N) (hN : N < 1073741824) (hK : v.K ≤ 4611686018427387000)
    {k : Nat} {g : List Nat} (hg : v.gs[k]? = some g) {P1 P2 : List SRow} {s : Nat} {r : List V} (hQ : Q (k + 1) = P1 ++ P2) (hQl : ∀ l, (Q l).length ≤ v.most) (hlt : (P1 ++ P2).length < v.most) (hQr : ∀ p ∈ P1 ++ P2, fitsR v.width p.2 = true ∧ smallR p.2 ∧ wfR p.2)
    (hfit : fitsR v.width r = true) (hsm : smallR r) (hwf : wfR r) (hs : ∀ p ∈ P1 ++ P2, p.1 ≠ s) {A : Option Addr} {n : Nat} (c : Nat) (ha : ArgR w A n (keyR g r)) (hA : ∀ a, A = some a → ¬ lab.dom a.block) :
    Calls Try.prog 84 #[.pointer (some ⟨v.x, 0, none⟩), .int .i64 k, .slice A n c] w fun e w' => ∃ (nL : Nat) (v' : StV), e = .returned (.int .i64 nL) ∧ StR w lab w' v' ∧
      Bridge v v' (upd Q (k + 1) (P1 ++ (s, r) :: P2)) nL (grpC v.L k g P1 (keyR g r)) (grpC v.L k g P2 (keyR g r)) (s * v.L + (k + 1)) N := by
  have hk := gs_lt hg
  have hkg := gs_good hr hg hfit hsm hwf
  have hlane := hlan.lane k g hg
  rw [hQ] at hlane
  have hkeys := hr.keys hg hlane hQr
  have hlen : (v.G k).length < v.most := by
    rw [hlane.fun_]
    exact Nat.lt_of_le_of_lt hlane.len_le hlt
  have hgx : ∃ xk, v.gx[k]? = some xk := ⟨_, List.getElem?_eq_getElem (by rw [hr.gx]; exact hk)⟩
  obtain ⟨xk, hxk⟩ := hgx
  have hgl := (hr.gs g (List.mem_of_getElem? hg)).1
  have hKO : KeyOk v k xk g (keyR g r) := ⟨hg, by omega, hxk, hkg.len, hkg.ok, pk_le _, hlane.one hkeys hkg⟩
  have hLg : v.L = v.gs.length + 1 := rfl
  have hfresh : ∀ m, s * v.L + (k + 1) ∉ v.cont m := hlan.fresh hLg (by omega) (by rw [hQ]; exact hs)
  by_cases hin : keyR g r ∈ (D k).map (·.1)
  · rw [List.mem_map] at hin
    obtain ⟨⟨key, q⟩, hd, hkey⟩ := hin
    dsimp only at hkey
    subst hkey
    have hq : (pk (keyR g r), (q : Int)) ∈ v.G k := (hlane.entry hkeys hkg).2 ⟨q, hd, rfl⟩
    refine (open_old h (by omega) hKO c ha hq).mono ?_
    rintro e w' ⟨rfl, h1⟩
    have hcq : v.cont q = grpC v.L k g P1 (keyR g r) ++ grpC v.L k g P2 (keyR g r) := by
      have := hlane.cont _ hd
      rw [grpC_append] at this
      exact this
    have hli := hlan.lists k _ hk hd
    refine ⟨q, v.tick 1, rfl, h1, ⟨⟨rfl, rfl, rfl, rfl, rfl, rfl, rfl, rfl, rfl⟩, ⟨hr.width, hr.most, hr.gsl, hr.gs, hr.rows, hr.slots, hr.vals, hr.alive, hr.lv, hr.refs, hr.ents, hr.gx⟩, rfl, rfl, rfl, by show v.K + 1 ≤ v.K + 3; omega, ?_, hcq, hfresh, ⟨D, ?_⟩, hgen⟩⟩
    · have h2 := thg_lt hli.2.1
      have h3 := (h.part 5).ok.len
      have h4 := hli.1
      dsimp only at h2 h4
      omega
    · refine hlan.step hk hd fun g' hg' => ?_
      obtain rfl : g = g' := Option.some.inj (hg.symm.trans hg')
      exact hlane.old hd fun d hd2 e he he2 => (hlan.nums k k d e hk hk hd2 he he2).2
  · have hno : ∀ q, (pk (keyR g r), q) ∉ v.G k := fun q hq => by
      obtain ⟨n, hn, -⟩ := (hlane.entry hkeys hkg).1 hq
      exact hin (List.mem_map.2 ⟨_, hn, rfl⟩)
    have hm1 := hr.most
    have hg4 := hr.gsl
    have hlL : v.lL < v.most * v.L := by
      have h1 := hlan.lL_le hQl
      rw [hLg, Nat.mul_succ, Nat.mul_comm v.most]
      omega
    have hmL : v.most * v.L ≤ 1048576 := Nat.le_trans (Nat.mul_le_mul hm1.2 (show v.L ≤ 5 by omega)) (by omega)
    refine (open_new h hK hKO c ha hA hno hlen hlL (hgen.lt hN).2 hmL).mono ?_
    rintro e w' ⟨i, sl', free', ht, rfl, h1⟩
    have hdead : thg v.sL i = none := by
      have h6 := (h.part 5).ok
      have h7 : i ∈ fsOf (v.most * v.L) v.sL v.fL := by rw [ht.fs]; simp
      exact (h6.fs_dead (h6.fs_lt i h7)).1 h7
    have hi : i < v.most * v.L := by
      have h6 := (h.part 5).ok
      exact h6.fs_lt i (by rw [ht.fs]; simp)
    have hnew : ∀ j d, j < v.gs.length → d ∈ D j → d.2 ≠ i + 1 := fun j d hj hd e => by
      have h1 := (hlan.lists j d hj hd).2.1
      rw [e, Nat.add_sub_cancel, hdead] at h1
      cases h1
    have hc1 : v.cont (i + 1) = [] := hlan.dead (i + 1) (by omega) hnew
    have hnoP : ∀ p ∈ P1 ++ P2, keyR g p.2 ≠ keyR g r := fun p hp e => hin ((hlane.mem _).2 ⟨p, hp, e⟩)
    have e1 : grpC v.L k g P1 (keyR g r) = [] := (grpC_nil_iff v.L k g P1 _).2 fun p hp => hnoP p (List.mem_append_left _ hp)
    have e2 : grpC v.L k g P2 (keyR g r) = [] := (grpC_nil_iff v.L k g P2 _).2 fun p hp => hnoP p (List.mem_append_right _ hp)
    refine ⟨i + 1, _, by rw [Int.natCast_add]; rfl, h1, ⟨⟨rfl, rfl, rfl, rfl, rfl, rfl, rfl, rfl, rfl⟩, ⟨hr.width, hr.most, hr.gsl, hr.gs, hr.rows, hr.slots, hr.vals, hr.alive, hr.lv, hr.refs, hr.ents, hr.gx⟩, rfl, rfl, rfl, Nat.le_refl _, by omega, by rw [e1, e2]; exact hc1, hfresh, ⟨upd D k ((keyR g r, i + 1) :: D k), ?_⟩, hgen.took ht hdead⟩⟩
    rw [e1, e2]
    refine hlan.stepNew (key := keyR g r) hk ht hdead fun g' hg' => ?_
    obtain rfl : g = g' := Option.some.inj (hg.symm.trans hg')
    exact hlane.new hin fun d hd => hnew k d hk hd
/-- the whole order's list -/
theorem bridge0 {v : StV} {D : Nat → List (List V × Nat)} {Q : Nat → List SRow} {N : Nat} (hr : StRow v) (hlan : StLan v.L v.gs v.G v.cont v.sL v.lL v.lrefs D Q) (hgen : StGen v.sl v.sL N) {P1 P2 : List SRow} {s : Nat} (r : List V) (hQ : Q 0 = P1 ++ P2) (hs : ∀ p ∈ P1 ++ P2, p.1 ≠ s) :
    Bridge v v (upd Q 0 (P1 ++ (s, r) :: P2)) 0 (P1.map fun p => p.1 * v.L) (P2.map fun p => p.1 * v.L) (s * v.L + 0) N := by
  refine ⟨Kept.refl v, hr, rfl, rfl, rfl, by omega, by omega, by rw [hlan.c0, hQ, List.map_append], hlan.fresh rfl (Nat.zero_le _) (by rw [hQ]; exact hs), ⟨D, ?_⟩, hgen⟩
  have := hlan.step0 (P1 ++ (s, r) :: P2)
  rw [List.map_append, List.map_cons] at this
  exact this
/-- the rows behind a row's coming -/
theorem StRow.link {v : StV} (h : StRow v) {s : Nat} {r : List V} {P1 P2 : List SRow} {sl' : List (Slt Value)} {fr' : List Nat} {u : Value} (hP : v.P = P1 ++ P2) (ht : TookR v.most v.sl v.fr u s sl' fr') (hs : thg v.sl s = none) (hf : fitsR v.width r = true) (hsm : smallR r) (hwf : wfR r) (hnew : r ∉ v.P.map (·.2)) (K : Nat) :
    StRow { v with sl := sl', fr := fr', lv := v.lv + 1, P := P1 ++ (s, r) :: P2, refs := v.refs.put s (.agg #[.int .i64 s, .int .i64 ((genA v.sl s : Int) + 1)]), E := (pk r, (s : Int)) :: v.E, K := K } := by
  have hmem : ∀ p, p ∈ P1 ++ (s, r) :: P2 ↔ p = (s, r) ∨ p ∈ v.P := fun p => by rw [hP]; simp only [List.mem_append, List.mem_cons]; exact or_left_comm
  have hsl : s ∉ v.P.map (·.1) := fun h1 => by
    have h2 := (h.alive s).2 h1
    rw [hs] at h2; cases h2
  have hperm : List.Perm (P1 ++ (s, r) :: P2) ((s, r) :: v.P) := by rw [hP]; exact List.perm_middle
  refine ⟨h.width, h.most, h.gsl, h.gs, fun p hp => ?_, ?_, ?_, fun i => ?_, ?_, fun p hp => ?_, ?_, h.gx⟩
  · rcases (hmem p).1 hp with rfl | hp
    · exact ⟨hf, hsm, hwf⟩
    · exact h.rows p hp
  · exact (hperm.map (·.1)).nodup_iff.2 (List.nodup_cons.2 ⟨hsl, h.slots⟩)
  · exact (hperm.map (·.2)).nodup_iff.2 (List.nodup_cons.2 ⟨hnew, h.vals⟩)
  · show (thg sl' i).isSome = true ↔ i ∈ (P1 ++ (s, r) :: P2).map (·.1)
    rw [(hperm.map (·.1)).mem_iff, ht.th]
    simp only [List.map_cons, List.mem_cons]
    by_cases hi : i = s
    · simp [hi]
    · rw [if_neg hi, h.alive i]
      simp [hi]
  · show v.lv + 1 = (P1 ++ (s, r) :: P2).length
    rw [hperm.length_eq, List.length_cons, h.lv]
  · show (v.refs.put s _) p.1 = some (.agg #[.int .i64 p.1, .int .i64 (genA sl' p.1 : Int)])
    rcases (hmem p).1 hp with rfl | hp
    · rw [ht.ge, if_pos rfl]
      simp [IMap.put]
    · have hne : p.1 ≠ s := fun e => hsl (by rw [← e]; exact List.mem_map.2 ⟨p, hp, rfl⟩)
      rw [ht.ge, if_neg hne, IMap.put, if_neg hne]
      exact h.refs p hp
  · show List.Perm ((pk r, (s : Int)) :: v.E) ((P1 ++ (s, r) :: P2).map fun p => (pk p.2, (p.1 : Int)))
    exact (h.ents.cons _).trans (hperm.map fun p : SRow => (pk p.2, (p.1 : Int))).symm
/-- a row that isn't there has no entry -/
theorem StRow.noEnt {v : StV} (h : StRow v) {r : List V} (hv : validR r = true) (hwf : wfR r) (hnew : r ∉ v.P.map (·.2)) : ∀ z, (pk r, z) ∉ v.E := fun z hz => by
  rw [h.ents.mem_iff, List.mem_map] at hz
  obtain ⟨p, hp, e⟩ := hz
  injection e with e1 e2
  have h1 := h.rows p hp
  have h2 : validR p.2 = true := by
    have := h1.1
    unfold fitsR at this
    rw [Bool.and_eq_true] at this
    exact this.2
  exact hnew (List.mem_map.2 ⟨p, hp, pk_inj h2 h1.2.2 hv hwf e1⟩)
open Classical in
/-- what is ahead in a lane -/
theorem aheads_at (gs : List (List Nat)) (r : List V) (P2 : List SRow) (L l : Nat) (hl : l ≤ gs.length) : ∃ o : Option Nat, (aheads gs r P2)[l]? = some (oi o) ∧ (l = 0 → (P2.map fun p => p.1 * L).head? = o.map fun s => s * L + l) ∧ (∀ k g, l = k + 1 → gs[k]? = some g → (grpC L k g P2 (keyR g r)).head? = o.map fun s => s * L + l) := by
  rcases l with _ | k
  · refine ⟨P2.head?.map (·.1), rfl, fun _ => ?_, fun k g e => by omega⟩
    rw [List.head?_map]
    cases P2.head? <;> rfl
  · have hk : k < gs.length := by omega
    refine ⟨(P2.find? fun p => decide (keyR gs[k] p.2 = keyR gs[k] r)).map (·.1), ?_, fun e => by omega, fun k' g e hg => ?_⟩
    · unfold aheads
      rw [List.getElem?_cons_succ, List.getElem?_map, List.getElem?_eq_getElem hk]
      rfl
    · obtain rfl : k = k' := by omega
      obtain rfl : gs[k] = g := by rw [List.getElem?_eq_getElem hk] at hg; exact Option.some.inj hg
      exact grpC_head L k _ r P2
end Go.Proofs.Ytahdiiaadjdmcaa
