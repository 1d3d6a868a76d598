/-
  What a query means, as plain data: an answer comes of a valuation of all variables under which each atom is a row.
-/
import Derived.Test.YtpfjkjmimmklcaaNaiM
import Derived.Test.YtpfjkjmimmklcaaHomG
namespace Go.Proofs.Ytpfjkjmimmklcaa
open Go.RowKit

/-- a valuation of all variables -/
abbrev Sig : Type := ByteArray → V
def valT (σ : Sig) (t : Tm) : V := if noVar t then t.c else σ t.v
def Sig.put (σ : Sig) (x : ByteArray) (v : V) : Sig := fun y => if y = x then v else σ y
theorem at_pre {l : List ByteArray} {x : ByteArray} (l' : List ByteArray) (h : x ∈ l) : atN (l ++ l') x = atN l x ∧ atN l x < l.length := by
  obtain ⟨h1, k, h2, h3⟩ := (firstI_app (x := x) l l' 0).1 (memB_iff.2 h)
  unfold atN
  rw [h1, h2]
  exact ⟨rfl, by simpa using h3⟩
theorem at_new {l : List ByteArray} {x : ByteArray} (l' : List ByteArray) (h : x ∉ l) : atN (l ++ x :: l') x = l.length := by
  have hm : memB l x = false := by
    rw [← Bool.not_eq_true, memB_iff]; exact h
  unfold atN
  rw [(firstI_app (x := x) l l' 0).2 hm]
  simp
theorem map_at (σ : Sig) {l : List ByteArray} {x : ByteArray} (h : x ∈ l) : (l.map σ)[atN l x]? = some (σ x) := by
  rw [List.getElem?_map, atN_get h]; rfl
theorem map_put {σ : Sig} {l : List ByteArray} {x : ByteArray} (h : x ∉ l) (v : V) : l.map (σ.put x v) = l.map σ :=
  List.map_congr_left fun y hy => by
    unfold Sig.put
    rw [if_neg (fun e : y = x => h (by rw [← e]; exact hy))]
theorem put_self (σ : Sig) (x : ByteArray) (v : V) : σ.put x v x = v := by simp [Sig.put]
theorem map_snoc_put {σ : Sig} {l : List ByteArray} {x : ByteArray} (h : x ∉ l) (v : V) : l.map σ ++ [v] = (l ++ [x]).map (σ.put x v) := by
  rw [List.map_append, map_put h, List.map_singleton, put_self]

theorem matchGo_iff (vars : List ByteArray) : ∀ (ts : List Tm) (r : List V) (acc rest : List ByteArray) (σ : Sig) (m : List V), ts.length = r.length → vars = addTs acc ts ++ rest →
    (matchGo vars ts r (acc.map σ) = some m ↔ ∃ τ : Sig, (∀ x ∈ acc, τ x = σ x) ∧ r = ts.map (valT τ) ∧ m = (addTs acc ts).map τ)
  | [], [], acc, rest, σ, m, _, hv => by
    simp only [matchGo, addTs, List.foldl_nil, Option.some.injEq]
    constructor
    · rintro rfl; exact ⟨σ, fun _ _ => rfl, rfl, rfl⟩
    · rintro ⟨τ, h1, -, rfl⟩
      exact List.map_congr_left fun x hx => (h1 x hx).symm
  | [], _ :: _, _, _, _, _, h, _ => by simp at h
  | _ :: _, [], _, _, _, _, h, _ => by simp at h
  | t :: ts, y :: r, acc, rest, σ, m, hl, hv => by
    have hl' : ts.length = r.length := by simpa using hl
    have e0 : addTs acc (t :: ts) = addTs (addT acc t) ts := rfl
    rw [e0] at hv ⊢
    by_cases hn : noVar t = true
    · have e1 : addT acc t = acc := by simp [addT, hn]
      rw [e1] at hv ⊢
      simp only [matchGo, hn, if_true]
      by_cases hs : sameV y t.c = true
      · rw [if_pos hs]
        have hy : y = t.c := sameV_iff.1 hs
        rw [matchGo_iff vars ts r acc rest σ m hl' hv]
        constructor
        · rintro ⟨τ, h1, h2, h3⟩
          exact ⟨τ, h1, by rw [List.map_cons, ← h2, hy]; simp [valT, hn], h3⟩
        · rintro ⟨τ, h1, h2, h3⟩
          rw [List.map_cons] at h2
          injection h2 with h4 h5
          exact ⟨τ, h1, h5, h3⟩
      · rw [if_neg hs]
        constructor
        · intro h; cases h
        · rintro ⟨τ, h1, h2, h3⟩
          rw [List.map_cons] at h2
          injection h2 with h4 h5
          exfalso; apply hs
          rw [sameV_iff, h4]; simp [valT, hn]
    · have hn' : noVar t = false := by simpa using hn
      simp only [matchGo, hn', Bool.false_eq_true, if_false, List.length_map]
      by_cases hm : t.v ∈ acc
      · have e1 : addT acc t = acc := by simp [addT, hn', memB_iff.2 hm]
        rw [e1] at hv ⊢
        obtain ⟨rs, hr⟩ := addTs_pre acc ts
        rw [hr, List.append_assoc] at hv
        obtain ⟨ha, hlt⟩ := at_pre (l := acc) (x := t.v) (rs ++ rest) hm
        rw [← hv] at ha
        rw [if_neg (by omega), ha]
        by_cases hg : getB (acc.map σ) (atN acc t.v) y = true
        · rw [if_pos hg]
          have hy : σ t.v = y := by
            have := getB_iff.1 hg
            rw [map_at σ hm] at this
            exact Option.some.inj this
          rw [matchGo_iff vars ts r acc rest σ m hl' (by rw [hr, List.append_assoc]; exact hv)]
          constructor
          · rintro ⟨τ, h1, h2, h3⟩
            exact ⟨τ, h1, by rw [List.map_cons, ← h2]; simp [valT, hn', h1 _ hm, hy], h3⟩
          · rintro ⟨τ, h1, h2, h3⟩
            rw [List.map_cons] at h2
            injection h2 with h4 h5
            exact ⟨τ, h1, h5, h3⟩
        · rw [if_neg hg]
          constructor
          · intro h; cases h
          · rintro ⟨τ, h1, h2, h3⟩
            rw [List.map_cons] at h2
            injection h2 with h4 h5
            exfalso; apply hg
            rw [getB_iff, map_at σ hm, h4]
            simp [valT, hn', h1 _ hm]
      · have hmm : memB acc t.v = false := by
          rw [← Bool.not_eq_true, memB_iff]; exact hm
        have e1 : addT acc t = acc ++ [t.v] := by simp [addT, hn', hmm]
        rw [e1] at hv ⊢
        obtain ⟨rs, hr⟩ := addTs_pre (acc ++ [t.v]) ts
        have ha : atN vars t.v = acc.length := by
          rw [hv, hr, List.append_assoc, List.append_assoc, List.singleton_append]
          exact at_new _ hm
        rw [if_pos ha, map_snoc_put hm y, matchGo_iff vars ts r (acc ++ [t.v]) rest (σ.put t.v y) m hl' hv]
        constructor
        · rintro ⟨τ, h1, h2, h3⟩
          refine ⟨τ, fun x hx => ?_, ?_, h3⟩
          · rw [h1 x (List.mem_append_left _ hx)]
            unfold Sig.put
            rw [if_neg (fun e : x = t.v => hm (by rw [← e]; exact hx))]
          · rw [List.map_cons, ← h2]
            have := h1 t.v (by simp)
            rw [put_self] at this
            simp [valT, hn', this]
        · rintro ⟨τ, h1, h2, h3⟩
          rw [List.map_cons] at h2
          injection h2 with h4 h5
          refine ⟨τ, fun x hx => ?_, h5, h3⟩
          rcases List.mem_append.1 hx with hx | hx
          · rw [h1 x hx]
            unfold Sig.put
            rw [if_neg (fun e : x = t.v => hm (by rw [← e]; exact hx))]
          · obtain rfl := List.mem_singleton.1 hx
            rw [put_self, h4]; simp [valT, hn']
/-- a row matches an atom just if it is what the atom says under some valuation -/
theorem matchA_iff {a : Atm} {r m : List V} : matchA a r = some m ↔ ∃ τ : Sig, r = a.terms.map (valT τ) ∧ m = (varsA a).map τ := by
  unfold matchA
  by_cases hl : r.length = a.terms.length
  · rw [if_pos hl]
    have h := matchGo_iff (varsA a) a.terms r [] [] (fun _ => zeroV) m hl.symm (by simp [varsA])
    rw [List.map_nil] at h
    rw [h]
    constructor
    · rintro ⟨τ, -, h2, h3⟩; exact ⟨τ, h2, h3⟩
    · rintro ⟨τ, h2, h3⟩; exact ⟨τ, fun _ h => (by cases h), h2, h3⟩
  · rw [if_neg hl]
    constructor
    · intro h; cases h
    · rintro ⟨τ, h2, -⟩
      exact absurd (by rw [h2, List.length_map]) hl

theorem joinP_iff (all : List ByteArray) : ∀ (xs vs rest : List ByteArray) (σ τ : Sig) (v' : List V), all = xs.foldl addV vs ++ rest →
    (joinP (vs.map σ) (xs.map (atN all)) (xs.map τ) = some v' ↔ (∀ x ∈ xs, x ∈ vs → σ x = τ x) ∧ v' = (xs.foldl addV vs).map fun x => if memB vs x then σ x else τ x)
  | [], vs, rest, σ, τ, v', _ => by
    simp only [List.map_nil, joinP, Option.some.injEq, List.foldl_nil]
    constructor
    · rintro rfl
      exact ⟨fun _ h => (by cases h), List.map_congr_left fun x hx => by rw [if_pos (memB_iff.2 hx)]⟩
    · rintro ⟨-, rfl⟩
      exact List.map_congr_left fun x hx => by rw [if_pos (memB_iff.2 hx)]
  | x :: xs, vs, rest, σ, τ, v', hall => by
    rw [List.foldl_cons] at hall ⊢
    have pre : ∀ (l : List ByteArray) (acc : List ByteArray), ∃ r, l.foldl addV acc = acc ++ r := by
      intro l
      induction l with
      | nil => intro acc; exact ⟨[], by simp⟩
      | cons y l ih =>
        intro acc
        obtain ⟨r, hr⟩ := ih (addV acc y)
        rw [List.foldl_cons, hr]
        unfold addV
        split
        · exact ⟨r, rfl⟩
        · exact ⟨y :: r, by simp⟩
    simp only [List.map_cons, joinP, List.length_map]
    by_cases hm : x ∈ vs
    · have e1 : addV vs x = vs := by simp [addV, memB_iff.2 hm]
      rw [e1] at hall ⊢
      obtain ⟨r, hr⟩ := pre xs vs
      have ha : atN all x = atN vs x ∧ atN vs x < vs.length := by
        have := at_pre (l := vs) (x := x) (r ++ rest) hm
        rw [← List.append_assoc, ← hr, ← hall] at this
        exact this
      rw [ha.1, if_pos ha.2]
      by_cases hg : getB (vs.map σ) (atN vs x) (τ x) = true
      · have hy : σ x = τ x := by
          have := getB_iff.1 hg
          rw [map_at σ hm] at this
          exact Option.some.inj this
        rw [if_pos hg, joinP_iff all xs vs rest σ τ v' hall]
        constructor
        · rintro ⟨h1, h2⟩
          refine ⟨fun y hy' => ?_, h2⟩
          rcases List.mem_cons.1 hy' with rfl | hy'
          · exact fun _ => hy
          · exact h1 y hy'
        · rintro ⟨h1, h2⟩
          exact ⟨fun y hy' => h1 y (List.mem_cons_of_mem _ hy'), h2⟩
      · rw [if_neg hg]
        constructor
        · intro h; cases h
        · rintro ⟨h1, -⟩
          exfalso; apply hg
          rw [getB_iff, map_at σ hm, h1 x (by simp) hm]
    · have hmm : memB vs x = false := by
        rw [← Bool.not_eq_true, memB_iff]; exact hm
      have e1 : addV vs x = vs ++ [x] := by simp [addV, hmm]
      rw [e1] at hall ⊢
      obtain ⟨r, hr⟩ := pre xs (vs ++ [x])
      have ha : atN all x = vs.length := by
        rw [hall, hr, List.append_assoc, List.append_assoc, List.singleton_append]
        exact at_new _ hm
      rw [ha, if_neg (by omega), map_snoc_put hm (τ x), joinP_iff all xs (vs ++ [x]) rest (σ.put x (τ x)) τ v' hall]
      have key : ∀ y, (if memB (vs ++ [x]) y then σ.put x (τ x) y else τ y) = if memB vs y then σ y else τ y := by
        intro y
        by_cases h1 : y = x
        · subst h1
          rw [if_pos (memB_iff.2 (by simp)), hmm, put_self]
          simp
        · have e : memB (vs ++ [x]) y = memB vs y := by
            rw [Bool.eq_iff_iff, memB_iff, memB_iff]; simp [h1]
          rw [e, Sig.put, if_neg h1]
      constructor
      · rintro ⟨h1, h2⟩
        refine ⟨fun y hy' => ?_, by rw [h2]; exact List.map_congr_left fun y _ => key y⟩
        rcases List.mem_cons.1 hy' with rfl | hy'
        · exact fun h => absurd h hm
        · intro h
          have := h1 y hy' (by simp [h])
          unfold Sig.put at this
          rwa [if_neg (fun e : y = x => hm (by rw [← e]; exact h))] at this
      · rintro ⟨h1, h2⟩
        refine ⟨fun y hy' hv => ?_, by rw [h2]; exact List.map_congr_left fun y _ => (key y).symm⟩
        by_cases e : y = x
        · subst e; rw [put_self]
        · unfold Sig.put
          rw [if_neg e]
          exact h1 y (List.mem_cons_of_mem _ hy') (by simpa [e] using hv)

theorem one_sig {val : List V} {vs : List ByteArray} (hlen : val.length = vs.length) (hnd : vs.Nodup) : ∃ σ : Sig, val = vs.map σ := ⟨fun x => val.getD (atN vs x) zeroV, by
  apply List.ext_getElem?
  intro i
  rw [List.getElem?_map]
  cases h : vs[i]? with
  | none =>
    have := List.getElem?_eq_none_iff.1 h
    rw [List.getElem?_eq_none_iff.2 (by omega)]; rfl
  | some x =>
    obtain ⟨hi, e⟩ := List.getElem?_eq_some_iff.1 h
    have hat : atN vs x = i := by
      have h1 : x ∈ vs := e ▸ List.getElem_mem hi
      have h2 := atN_get h1
      obtain ⟨hj, e2⟩ := List.getElem?_eq_some_iff.1 h2
      exact (List.getElem_inj hnd).1 (e2.trans e.symm)
    simp only [Option.map_some, hat]
    rw [List.getD_eq_getElem?_getD, List.getElem?_eq_getElem (show i < val.length by omega)]; rfl⟩
theorem addTs_nodup : ∀ (ts : List Tm) {acc : List ByteArray}, acc.Nodup → (addTs acc ts).Nodup
  | [], _, h => h
  | t :: ts, acc, h => by
    have e : addTs acc (t :: ts) = addTs (addT acc t) ts := rfl
    rw [e]
    refine addTs_nodup ts ?_
    unfold addT
    split
    · exact h
    · split
      · exact h
      · rename_i hm
        rw [List.nodup_append]
        refine ⟨h, by simp, fun a ha b hb e => ?_⟩
        obtain rfl := List.mem_singleton.1 hb
        exact hm (memB_iff.2 (e ▸ ha))
/-- one atom more: the valuation of the variables so far is carried on just by a valuation of all -/
theorem one_iff {l : Lv} {vs rest all : List ByteArray} {val r v' : List V} (hall : all = addTs vs l.a.terms ++ rest) (hks : l.ks = (varsA l.a).map (atN all)) (hlen : val.length = vs.length) (hnd : vs.Nodup) :
    l.one val r = some v' ↔ ∃ σ : Sig, val = vs.map σ ∧ r = l.a.terms.map (valT σ) ∧ v' = (addTs vs l.a.terms).map σ := by
  obtain ⟨σ0, hσ0⟩ := one_sig hlen hnd
  have hadd : (varsA l.a).foldl addV vs = addTs vs l.a.terms := varsQ_step vs l.a
  unfold Lv.one
  rw [Option.bind_eq_some_iff]
  constructor
  · rintro ⟨m, h1, h2⟩
    obtain ⟨τ, hr, rfl⟩ := matchA_iff.1 h1
    rw [hks, hσ0] at h2
    obtain ⟨h3, h4⟩ := (joinP_iff all (varsA l.a) vs rest σ0 τ v' (by rw [hadd]; exact hall)).1 h2
    refine ⟨fun x => if memB vs x then σ0 x else τ x, ?_, ?_, by rw [h4, hadd]⟩
    · rw [hσ0]
      exact List.map_congr_left fun x hx => by rw [if_pos (memB_iff.2 hx)]
    · rw [hr]
      refine List.map_congr_left fun t ht => ?_
      unfold valT
      split
      · rfl
      · rename_i hn
        show τ t.v = if memB vs t.v then σ0 t.v else τ t.v
        by_cases hm : t.v ∈ vs
        · rw [if_pos (memB_iff.2 hm), h3 t.v ?_ hm]
          exact (mem_addTs _ _ _).2 (.inr ⟨t, ht, by simpa using hn, rfl⟩)
        · rw [if_neg (fun h => hm (memB_iff.1 h))]
  · rintro ⟨σ, h1, h2, h3⟩
    refine ⟨(varsA l.a).map σ, matchA_iff.2 ⟨σ, h2, rfl⟩, ?_⟩
    rw [hks, h1, joinP_iff all (varsA l.a) vs rest σ σ v' (by rw [hadd]; exact hall)]
    exact ⟨fun _ _ _ => rfl, by rw [hadd, h3]; exact List.map_congr_left fun x _ => by simp⟩

def rowsOfP (data : List Tbl) (rel : ByteArray) : List (List V) := data.flatMap fun t => if t.rel = rel then t.rows else []
def lvsFrom (all : List ByteArray) (data : List Tbl) (as_ : List Atm) : List Lv := as_.map fun a => ⟨a, rowsOfP data a.rel, (varsA a).map (atN all)⟩
theorem leaves_iff (all : List ByteArray) (data : List Tbl) : ∀ (as_ : List Atm) (vs rest : List ByteArray) (val v : List V), all = addTs vs (as_.flatMap (·.terms)) ++ rest → val.length = vs.length → vs.Nodup →
    (v ∈ leaves (lvsFrom all data as_) val ↔ ∃ σ : Sig, val = vs.map σ ∧ (∀ a ∈ as_, a.terms.map (valT σ) ∈ rowsOfP data a.rel) ∧ v = (addTs vs (as_.flatMap (·.terms))).map σ)
  | [], vs, rest, val, v, hall, hlen, hnd => by
    simp only [lvsFrom, List.map_nil, leaves, List.mem_singleton, List.flatMap_nil, addTs, List.foldl_nil]
    constructor
    · rintro rfl
      obtain ⟨σ0, hσ0⟩ := one_sig hlen hnd
      exact ⟨σ0, hσ0, fun _ h => (by cases h), hσ0⟩
    · rintro ⟨σ, rfl, -, rfl⟩; rfl
  | a :: as_, vs, rest, val, v, hall, hlen, hnd => by
    have e0 : addTs vs ((a :: as_).flatMap (·.terms)) = addTs (addTs vs a.terms) (as_.flatMap (·.terms)) := by rw [List.flatMap_cons, addTs_append]
    rw [e0] at hall ⊢
    have hnd' : (addTs vs a.terms).Nodup := addTs_nodup _ hnd
    obtain ⟨rs, hrs⟩ := addTs_pre (addTs vs a.terms) (as_.flatMap (·.terms))
    have hall' : all = addTs vs a.terms ++ (rs ++ rest) := by rw [hall, hrs, List.append_assoc]
    have e1 : lvsFrom all data (a :: as_) = ⟨a, rowsOfP data a.rel, (varsA a).map (atN all)⟩ :: lvsFrom all data as_ := rfl
    rw [e1, leaves, List.mem_flatMap]
    constructor
    · rintro ⟨p, hp, hv⟩
      obtain ⟨r, hr, h1⟩ := List.mem_filterMap.1 hp
      obtain ⟨σ, h2, h3, h4⟩ := (one_iff hall' rfl hlen hnd).1 h1
      obtain ⟨τ, g1, g2, g3⟩ := (leaves_iff all data as_ (addTs vs a.terms) rest p v hall (by rw [h4, List.length_map]) hnd').1 hv
      have agree : ∀ x ∈ addTs vs a.terms, σ x = τ x := by
        rw [h4] at g1
        exact fun x hx => List.map_inj_left.1 g1 x hx
      refine ⟨τ, ?_, fun b hb => ?_, g3⟩
      · rw [h2]
        exact List.map_congr_left fun x hx => agree x ((mem_addTs _ _ _).2 (.inl hx))
      · rcases List.mem_cons.1 hb with rfl | hb
        · have : b.terms.map (valT σ) = b.terms.map (valT τ) := List.map_congr_left fun t ht => by
            unfold valT
            split
            · rfl
            · rename_i hn
              exact agree t.v ((mem_addTs _ _ _).2 (.inr ⟨t, ht, by simpa using hn, rfl⟩))
          rw [← this, ← h3]; exact hr
        · exact g2 b hb
    · rintro ⟨σ, h1, h2, h3⟩
      refine ⟨(addTs vs a.terms).map σ, List.mem_filterMap.2 ⟨a.terms.map (valT σ), h2 a (by simp), (one_iff hall' rfl hlen hnd).2 ⟨σ, h1, rfl, rfl⟩⟩, ?_⟩
      exact (leaves_iff all data as_ (addTs vs a.terms) rest _ v hall (by rw [List.length_map]) hnd').2 ⟨σ, rfl, fun b hb => h2 b (List.mem_cons_of_mem _ hb), h3⟩
end Go.Proofs.Ytpfjkjmimmklcaa
