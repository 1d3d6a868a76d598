/-
  NaiveShown, plain: the rows of a found valuation match the atoms and agree on the variables.
-/
import Derived.Test.YtpfjkjmimmklcaaNaiWitP
import Derived.Test.YtpfjkjmimmklcaaNaiPath
import Derived.Test.YtpfjkjmimmklcaaNaiH
namespace Go.Proofs.Ytpfjkjmimmklcaa
open Go.RowKit

theorem path_sig (all : List ByteArray) (data : List Tbl) : ∀ (as_ : List Atm) (vs rest : List ByteArray) (val : List V) (rs : List (List V)) (v : List V), all = addTs vs (as_.flatMap (·.terms)) ++ rest → val.length = vs.length → vs.Nodup → Path (lvsFrom all data as_) val rs v →
    ∃ σ : Sig, val = vs.map σ ∧ v = (addTs vs (as_.flatMap (·.terms))).map σ ∧ rs.length = as_.length ∧ ∀ (i : Nat) (a : Atm) (r : List V), as_[i]? = some a → rs[i]? = some r → r = a.terms.map (valT σ) ∧ r ∈ rowsOfP data a.rel
  | [], vs, rest, val, [], v, hall, hlen, hnd, h => by
    obtain ⟨σ0, hσ0⟩ := one_sig hlen hnd
    have hv : v = val := h
    subst hv
    exact ⟨σ0, hσ0, hσ0, rfl, fun i a r hi => by simp at hi⟩
  | [], _, _, _, _ :: _, _, _, _, _, h => h.elim
  | _ :: _, _, _, _, [], _, _, _, _, h => h.elim
  | a :: as_, vs, rest, val, r :: rs, v, hall, hlen, hnd, h => by
    have e0 : addTs vs ((a :: as_).flatMap (·.terms)) = addTs (addTs vs a.terms) (as_.flatMap (·.terms)) := by rw [List.flatMap_cons, addTs_append]
    rw [e0] at hall ⊢
    have hnd' : (addTs vs a.terms).Nodup := addTs_nodup _ hnd
    obtain ⟨rs', hrs⟩ := addTs_pre (addTs vs a.terms) (as_.flatMap (·.terms))
    have hall' : all = addTs vs a.terms ++ (rs' ++ rest) := by rw [hall, hrs, List.append_assoc]
    have h' : r ∈ rowsOfP data a.rel ∧ ∃ v1, (Lv.one ⟨a, rowsOfP data a.rel, (varsA a).map (atN all)⟩ val r) = some v1 ∧ Path (lvsFrom all data as_) v1 rs v := h
    obtain ⟨hr, v1, h1, h2⟩ := h'
    obtain ⟨σ, g1, g2, g3⟩ := (one_iff hall' rfl hlen hnd).1 h1
    obtain ⟨τ, k1, k2, k3, k4⟩ := path_sig all data as_ (addTs vs a.terms) rest v1 rs v hall (by rw [g3, List.length_map]) hnd' h2
    have agree : ∀ x ∈ addTs vs a.terms, σ x = τ x := by
      rw [g3] at k1
      exact fun x hx => List.map_inj_left.1 k1 x hx
    refine ⟨τ, ?_, k2, by rw [List.length_cons, List.length_cons, k3], fun i b s hi hs => ?_⟩
    · rw [g1]
      exact List.map_congr_left fun x hx => agree x ((mem_addTs _ _ _).2 (.inl hx))
    · cases i with
      | zero =>
        simp only [List.getElem?_cons_zero, Option.some.injEq] at hi hs
        subst hi; subst hs
        refine ⟨?_, hr⟩
        dsimp only at g2
        rw [g2]
        exact List.map_congr_left fun t ht => by
          unfold valT
          split
          · rfl
          · rename_i hn
            exact agree t.v ((mem_addTs _ _ _).2 (.inr ⟨t, ht, by simpa using hn, rfl⟩))
      | succ i => exact k4 i b s hi hs

/-- an answer has a witness: rows that match under one valuation, whose head is the answer -/
theorem wit_shown {q : Qy} {data : List Tbl} {ans : List V} (hs : shapeQ q = 0) (hc : costP q data ≤ 131072) (ha : ans ∈ ansP q data) :
    ∃ (rows : List (List V)) (σ : Sig), witP q data ans = (rows, true, 0) ∧ rows.length = q.atoms.length ∧ headV (q.head.map (atN (varsQ q))) ((varsQ q).map σ) = ans ∧
      ∀ (i : Nat) (a : Atm) (r : List V), q.atoms[i]? = some a → rows[i]? = some r → matchA a r = some ((varsA a).map σ) ∧ r ∈ rowsOfP data a.rel := by
  unfold ansP at ha
  rw [mem_arr, List.mem_map] at ha
  obtain ⟨v, hv, rfl⟩ := ha
  have hhit := visit_hit (p := fun u => headV (q.head.map (atN (varsQ q))) u = headV (q.head.map (atN (varsQ q))) v) (fun x => sameR (headV (q.head.map (atN (varsQ q))) x.1) (headV (q.head.map (atN (varsQ q))) v)) (fun u tr hu => sameR_iff.2 hu) (lvsFrom (varsQ q) data q.atoms) [] [] ⟨v, hv, rfl⟩
  obtain ⟨x, h1, h2⟩ := visit_stop _ _ _ _ hhit
  have hle := visit_le (fun x => sameR (headV (q.head.map (atN (varsQ q))) x.1) (headV (q.head.map (atN (varsQ q))) v)) (lvsFrom (varsQ q) data q.atoms) [] []
  obtain ⟨rs, h3, h4⟩ := visit_path _ _ _ _ x (List.mem_of_getLast? h1)
  rw [List.nil_append] at h3
  obtain ⟨σ, -, k2, k3, k4⟩ := path_sig (varsQ q) data q.atoms [] [] [] rs x.1 (by rw [List.append_nil]; exact varsQ_flat q) rfl List.nodup_nil h4
  rw [← varsQ_flat q] at k2
  refine ⟨rs, σ, ?_, k3, ?_, fun i a r hi hr => ⟨?_, (k4 i a r hi hr).2⟩⟩
  · unfold witP witV
    unfold costP at hc
    rw [if_pos hs, if_pos (Nat.le_trans hle hc), if_pos hhit, h1, Option.map_some, Option.getD_some, h3]
  · rw [← k2]
    exact sameR_iff.1 h2
  · exact matchA_iff.2 ⟨σ, (k4 i a r hi hr).1, rfl⟩
end Go.Proofs.Ytpfjkjmimmklcaa
