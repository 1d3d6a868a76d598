/-
  NaiveApart: the plain law: two queries without a common variable, put together, have each pair of their answers, in order.
-/
import Derived.Test.YtpfjkjmimmklcaaNaiH
import Derived.Test.YtpfjkjmimmklcaaNaiZ
import Derived.Test.YtpfjkjmimmklcaaHomG
namespace Go.Proofs.Ytpfjkjmimmklcaa
open Go.RowKit

/-- each pair, in order -/
def pairsR (a b : List (List V)) : List (List V) := a.flatMap fun r => b.map fun s => r ++ s
theorem cmpR_left_eq : ∀ (r s t : List V), cmpR (r ++ s) (r ++ t) = cmpR s t
  | [], s, t => rfl
  | v :: r, s, t => by
    simp only [List.cons_append, cmpR]
    rw [if_pos ((isCmp_val.eq v v).2 rfl)]
    exact cmpR_left_eq r s t
theorem cmpR_pre : ∀ (r q s t : List V), r.length = q.length → cmpR r q < 0 → cmpR (r ++ s) (q ++ t) < 0
  | [], [], _, _, _, h => by simp [cmpR] at h
  | [], _ :: _, _, _, h, _ => by simp at h
  | _ :: _, [], _, _, h, _ => by simp at h
  | v :: r, u :: q, s, t, h, h1 => by
    simp only [List.cons_append, cmpR] at h1 ⊢
    split
    · rename_i h2
      rw [if_pos h2] at h1
      exact cmpR_pre r q s t (by simpa using h) h1
    · rename_i h2
      rw [if_neg h2] at h1
      exact h1
theorem rises_pairs {n : Nat} {b : List (List V)} (hb : Rises b) : ∀ {a : List (List V)}, (∀ r ∈ a, r.length = n) → Rises a → Rises (pairsR a b)
  | [], _, _ => .nil
  | r :: a, hn, ha => by
    have h1 := List.pairwise_cons.1 ha
    have e : pairsR (r :: a) b = (b.map fun s => r ++ s) ++ pairsR a b := rfl
    rw [e]
    unfold Rises
    rw [List.pairwise_append]
    refine ⟨?_, rises_pairs hb (fun x hx => hn x (by simp [hx])) h1.2, fun x hx y hy => ?_⟩
    · rw [List.pairwise_map]
      exact hb.imp fun h => by rw [cmpR_left_eq]; exact h
    · obtain ⟨s, hs, rfl⟩ := List.mem_map.1 hx
      unfold pairsR at hy
      obtain ⟨q, hq, hy⟩ := List.mem_flatMap.1 hy
      obtain ⟨t, ht, rfl⟩ := List.mem_map.1 hy
      exact cmpR_pre r q s t ((hn r (by simp)).trans (hn q (by simp [hq])).symm) (h1.1 q hq)
theorem pairs_len (a b : List (List V)) : (pairsR a b).length = a.length * b.length := by
  induction a with
  | nil => simp [pairsR]
  | cons r a ih =>
    have e : pairsR (r :: a) b = (b.map fun s => r ++ s) ++ pairsR a b := rfl
    rw [e, List.length_append, ih, List.length_map, List.length_cons, Nat.add_mul]
    omega
theorem pairs_get {a b : List (List V)} {i j : Nat} {r s : List V} (hr : a[i]? = some r) (hs : b[j]? = some s) : (pairsR a b)[i * b.length + j]? = some (r ++ s) := by
  induction a generalizing i with
  | nil => simp at hr
  | cons x a ih =>
    have e : pairsR (x :: a) b = (b.map fun s => x ++ s) ++ pairsR a b := rfl
    rw [e]
    have hj := (List.getElem?_eq_some_iff.1 hs).1
    cases i with
    | zero =>
      obtain rfl : x = r := by simpa using hr
      rw [List.getElem?_append_left (by simp; omega), Nat.zero_mul, Nat.zero_add, List.getElem?_map, hs]
      rfl
    | succ i =>
      have h2 := ih (i := i) (by simpa using hr)
      rw [List.getElem?_append_right (by simp [Nat.add_mul]; omega), List.length_map, show (i + 1) * b.length + j - b.length = i * b.length + j by rw [Nat.add_mul]; omega]
      exact h2

/-- a w ahead of a name -/
def wN (x : ByteArray) : ByteArray := (⟨#[119]⟩ : ByteArray) ++ x
def wT (t : Tm) : Tm := if noVar t then t else ⟨wN t.v, t.c⟩
def wA (a : Atm) : Atm := ⟨a.rel, a.terms.map wT⟩
def bothQ (x y : Qy) : Qy := ⟨x.name, x.head ++ y.head.map wN, x.atoms ++ y.atoms.map wA⟩
theorem wN_data (x : ByteArray) : (wN x).data.toList = 119 :: x.data.toList := by
  show ((⟨#[119]⟩ : ByteArray) ++ x).data.toList = _
  rw [ByteArray.data_append]
  simp
theorem wN_inj {x y : ByteArray} (h : wN x = wN y) : x = y := by
  have h1 := congrArg (fun b => b.data.toList) h
  simp only [wN_data, List.cons.injEq, true_and] at h1
  obtain ⟨x⟩ := x; obtain ⟨y⟩ := y
  exact congrArg ByteArray.mk (Array.toList_inj.1 h1)
theorem wN_vName (n : Nat) (x : ByteArray) : wN x ≠ vName n := fun h => by
  have h1 := congrArg (fun b => b.data.toList) h
  simp only [wN_data] at h1
  unfold vName at h1
  simp at h1
theorem wN_some (x : ByteArray) : (wN x).toList.isEmpty = false := by
  rw [ByteArray.toList_eq, wN_data]; rfl
theorem wN_name {n : Nat} (h : n < 100) : nameB (wN (vName n)) = true := by
  have hl := digL_len h
  have hd := wN_data (vName n)
  have hs : (wN (vName n)).size = (wN (vName n)).data.toList.length := by rw [Array.length_toList]; rfl
  unfold nameB
  rw [hs, hd]
  unfold vName
  simp only [Bool.and_eq_true, List.all_eq_true, decide_eq_true_eq]
  refine ⟨⟨(by decide : letterB 119 = true), fun c hc => ?_⟩, ?_⟩
  · rcases List.mem_cons.1 hc with rfl | hc
    · decide
    · rcases List.mem_cons.1 hc with rfl | hc
      · decide
      · unfold partB
        rw [digL_digit n c hc, Bool.or_true]
  · simp only [List.length_cons]
    omega
theorem noVar_wT (t : Tm) : noVar (wT t) = noVar t := by
  unfold wT
  cases hn : noVar t with
  | true => simp [hn]
  | false => simp only [Bool.false_eq_true, if_false]; exact wN_some t.v

/-- the variables of a plain form -/
def IsV (x : ByteArray) : Prop := ∃ n, n < 100 ∧ x = vName n
theorem isV_ren {q : Qy} (hq : Shaped q) (x : ByteArray) : IsV (ren q x) := ⟨_, atN_lt hq x, rfl⟩
theorem plain_heads {q : Qy} (hq : Shaped q) : ∀ x ∈ (plainQ q).head, IsV x := fun x hx => by
  obtain ⟨y, -, rfl⟩ := List.mem_map.1 hx
  exact isV_ren hq y
theorem plain_terms {q : Qy} (hq : Shaped q) : ∀ a ∈ (plainQ q).atoms, ∀ t ∈ a.terms, noVar t = false → IsV t.v := fun a ha t ht hn => by
  obtain ⟨b, -, rfl⟩ := List.mem_map.1 ha
  obtain ⟨u, -, rfl⟩ := List.mem_map.1 ht
  rw [renT_var hq] at hn
  unfold renT
  rw [if_neg (by rw [hn]; decide)]
  exact isV_ren hq u.v
theorem both_shaped {q p : Qy} (hq : Shaped q) (hp : Shaped p) (h6 : q.atoms.length + p.atoms.length ≤ 6) : Shaped (bothQ (plainQ q) (plainQ p)) := by
  have hX := plain_shaped hq
  have hY := plain_shaped hp
  have hv := plain_heads hq
  have hw := plain_heads hp
  have ht := plain_terms hp
  have l1 : (plainQ q).atoms.length = q.atoms.length := by simp [plainQ]
  have l2 : (plainQ p).atoms.length = p.atoms.length := by simp [plainQ]
  generalize plainQ q = X at *
  generalize plainQ p = Y at *
  refine ⟨hX.name, fun x hx => ?_, fun a ha => ?_, ?_, ?_, ?_, fun x hx => ?_⟩
  · rcases List.mem_append.1 (show x ∈ X.head ++ Y.head.map wN from hx) with h | h
    · exact hX.head x h
    · obtain ⟨y, hy, rfl⟩ := List.mem_map.1 h
      obtain ⟨n, hn, rfl⟩ := hw y hy
      exact wN_name hn
  · rcases List.mem_append.1 (show a ∈ X.atoms ++ Y.atoms.map wA from ha) with h | h
    · exact hX.atoms a h
    · obtain ⟨b, hb, rfl⟩ := List.mem_map.1 h
      have h1 := hY.atoms b hb
      refine ⟨h1.1, by simpa [wA] using h1.2.1, fun t ht' => ?_⟩
      obtain ⟨u, hu, rfl⟩ := List.mem_map.1 ht'
      have h2 := h1.2.2 u hu
      rw [noVar_wT]
      unfold wT
      refine ⟨fun hn => by rw [if_pos hn]; exact h2.1 hn, fun hn => ?_⟩
      rw [if_neg (by rw [hn]; decide)]
      obtain ⟨n, hn100, he⟩ := ht b hb u hu hn
      refine ⟨?_, (h2.2 hn).2⟩
      show nameB (wN u.v) = true
      rw [he]; exact wN_name hn100
  · show 1 ≤ (X.atoms ++ Y.atoms.map wA).length
    rw [List.length_append]; have := hX.some; omega
  · show (X.atoms ++ Y.atoms.map wA).length ≤ 6
    rw [List.length_append, List.length_map]; omega
  · show (X.head ++ Y.head.map wN).Nodup
    rw [List.nodup_append]
    refine ⟨hX.nodup, ?_, fun a ha b hb => ?_⟩
    · have hn := hY.nodup
      unfold List.Nodup at hn ⊢
      rw [List.pairwise_map]
      exact hn.imp fun h e => h (wN_inj e)
    · obtain ⟨y, hy, rfl⟩ := List.mem_map.1 hb
      obtain ⟨n, -, rfl⟩ := hv a ha
      exact fun e => wN_vName n y e.symm
  · rcases List.mem_append.1 (show x ∈ X.head ++ Y.head.map wN from hx) with h | h
    · obtain ⟨a, ha, t, ht, h3⟩ := hX.safe x h
      exact ⟨a, List.mem_append_left _ ha, t, ht, h3⟩
    · obtain ⟨y, hy, rfl⟩ := List.mem_map.1 h
      obtain ⟨a, ha, t, ht, hn, hv⟩ := hY.safe y hy
      refine ⟨wA a, List.mem_append_right _ (List.mem_map.2 ⟨a, ha, rfl⟩), wT t, List.mem_map.2 ⟨t, ht, rfl⟩, by rw [noVar_wT]; exact hn, ?_⟩
      unfold wT
      rw [if_neg (by rw [hn]; decide)]
      show wN t.v = wN y
      rw [hv]

theorem valT_wT (σ : Sig) (t : Tm) : valT σ (wT t) = valT (fun y => σ (wN y)) t := by
  unfold valT
  rw [noVar_wT]
  unfold wT
  cases hn : noVar t <;> simp
open Classical in
/-- two valuations put together -/
noncomputable def bothS (σ τ : Sig) : Sig := fun z => if h : ∃ y, wN y = z then τ (Classical.choose h) else σ z
theorem bothS_w (σ τ : Sig) (y : ByteArray) : bothS σ τ (wN y) = τ y := by
  unfold bothS
  have h : ∃ y', wN y' = wN y := ⟨y, rfl⟩
  rw [dif_pos h]
  exact congrArg τ (wN_inj (Classical.choose_spec h))
theorem bothS_v (σ τ : Sig) {x : ByteArray} (h : IsV x) : bothS σ τ x = σ x := by
  unfold bothS
  obtain ⟨n, -, rfl⟩ := h
  rw [dif_neg (fun ⟨y, hy⟩ => wN_vName n y hy)]
theorem both_ans {q p : Qy} (hq : Shaped q) (hp : Shaped p) (h6 : q.atoms.length + p.atoms.length ≤ 6) (data : List Tbl) : ansP (bothQ (plainQ q) (plainQ p)) data = pairsR (ansP (plainQ q) data) (ansP (plainQ p) data) := by
  refine rises_unique (rises_ans _ _) (rises_pairs (rises_ans _ _) (n := (plainQ q).head.length) (fun r hr => ans_row hr) (rises_ans _ _)) fun x => ?_
  rw [mem_ans (both_shaped hq hp h6)]
  unfold pairsR
  simp only [List.mem_flatMap, List.mem_map, mem_ans (plain_shaped hq), mem_ans (plain_shaped hp)]
  have hv := plain_heads hq
  have hvt := plain_terms hq
  generalize plainQ q = X at *
  generalize plainQ p = Y at *
  constructor
  · rintro ⟨σ, h1, rfl⟩
    refine ⟨X.head.map σ, ⟨σ, fun a ha => h1 a (List.mem_append_left _ ha), rfl⟩, Y.head.map fun y => σ (wN y), ⟨fun y => σ (wN y), fun a ha => ?_, rfl⟩, ?_⟩
    · have h2 := h1 (wA a) (List.mem_append_right _ (List.mem_map.2 ⟨a, ha, rfl⟩))
      have e : (wA a).terms.map (valT σ) = a.terms.map (valT fun y => σ (wN y)) := by
        show (a.terms.map wT).map (valT σ) = _
        rw [List.map_map]
        exact List.map_congr_left fun t _ => valT_wT σ t
      rw [e] at h2
      exact h2
    · show _ = (X.head ++ Y.head.map wN).map σ
      rw [List.map_append, List.map_map]
      rfl
  · rintro ⟨_, ⟨σ, h1, rfl⟩, _, ⟨τ, h2, rfl⟩, rfl⟩
    refine ⟨bothS σ τ, fun a ha => ?_, ?_⟩
    · rcases List.mem_append.1 (show a ∈ X.atoms ++ Y.atoms.map wA from ha) with h | h
      · have e : a.terms.map (valT (bothS σ τ)) = a.terms.map (valT σ) := List.map_congr_left fun t ht => by
          unfold valT
          cases hn : noVar t with
          | true => rfl
          | false =>
            simp only [Bool.false_eq_true, if_false]
            exact bothS_v σ τ (hvt a h t ht hn)
        rw [e]; exact h1 a h
      · obtain ⟨b, hb, rfl⟩ := List.mem_map.1 h
        have e : (wA b).terms.map (valT (bothS σ τ)) = b.terms.map (valT τ) := by
          show (b.terms.map wT).map (valT (bothS σ τ)) = _
          rw [List.map_map]
          refine List.map_congr_left fun t _ => ?_
          show valT (bothS σ τ) (wT t) = _
          rw [valT_wT]
          have e2 : (fun y => bothS σ τ (wN y)) = τ := funext fun y => bothS_w σ τ y
          rw [e2]
        rw [e]; exact h2 b hb
    · show X.head.map σ ++ Y.head.map τ = (X.head ++ Y.head.map wN).map (bothS σ τ)
      rw [List.map_append, List.map_map]
      congr 1
      · exact List.map_congr_left fun y hy => (bothS_v σ τ (hv y hy)).symm
      · exact List.map_congr_left fun y _ => (bothS_w σ τ y).symm
theorem leaves_le : ∀ (ls : List Lv) (val : List V), (leaves ls val).length ≤ cost ls val + 1
  | [], _ => by simp [leaves]
  | l :: ls, val => by
    have h : ∀ ps : List (List V), (ps.flatMap (leaves ls)).length ≤ (ps.map (cost ls)).sum + ps.length := by
      intro ps
      induction ps with
      | nil => simp
      | cons p ps ih =>
        have := leaves_le ls p
        rw [List.flatMap_cons, List.length_append, List.map_cons, List.sum_cons, List.length_cons]
        omega
    have h1 := h (l.step val)
    have h2 : (l.step val).length ≤ l.rows.length := List.length_filterMap_le _ _
    simp only [leaves, cost]
    omega
theorem ansP_few {q : Qy} {data : List Tbl} (h : costP q data ≤ 131072) : (ansP q data).length ≤ 1073741824 := by
  have h1 := arr_len ((leaves (lvsFrom (varsQ q) data q.atoms) []).map (headV (q.head.map (atN (varsQ q)))))
  have h2 := leaves_le (lvsFrom (varsQ q) data q.atoms) []
  rw [List.length_map] at h1
  unfold costP at h
  show (ansP q data).length ≤ _
  unfold ansP
  omega
theorem answers_err {q : Qy} (hq : Shaped q) (data : List Tbl) : (answersP q data 1073741824).2 = 0 ∨ (answersP q data 1073741824).2 = 120 := by
  unfold answersP
  rw [if_pos (shapeQ_iff.2 hq), if_neg (by decide)]
  split
  · rename_i h
    rw [if_neg (by have := ansP_few h; omega)]
    exact .inl rfl
  · exact .inr rfl
theorem apart_law {q p : Qy} (hq : Shaped q) (hp : Shaped p) (h6 : q.atoms.length + p.atoms.length ≤ 6) (data : List Tbl)
    (h1 : (answersP (plainQ q) data 1073741824).2 = 0) (h2 : (answersP (plainQ p) data 1073741824).2 = 0) (h3 : (answersP (bothQ (plainQ q) (plainQ p)) data 1073741824).2 = 0) :
    (answersP (bothQ (plainQ q) (plainQ p)) data 1073741824).1 = pairsR (answersP (plainQ q) data 1073741824).1 (answersP (plainQ p) data 1073741824).1 := by
  rw [(answersP_ok h1).1, (answersP_ok h2).1, (answersP_ok h3).1, both_ans hq hp h6]
end Go.Proofs.Ytpfjkjmimmklcaa
