/-
  A query that lies upon another one has all of its answers; a query and its core have the same ones.
-/
import Derived.Test.YtpfjkjmimmklcaaNaiH
import Derived.Test.YtpfjkjmimmklcaaHomG
namespace Go.Proofs.Ytpfjkjmimmklcaa
open Go.RowKit

theorem val_app (σ : Sig) (h : ByteArray → Tm) (t : Tm) : valT (fun x => valT σ (h x)) t = valT σ (app h t) := by
  cases hn : noVar t with
  | true => simp [valT, app, hn]
  | false => simp [valT, app, hn]
theorem lies_ans {f t : Qy} (hf : Shaped f) (ht : Shaped t) (hl : f.head.length = t.head.length) (h : Lies f t) (data : List Tbl) : ∀ x ∈ ansP t data, x ∈ ansP f data := fun x hx => by
  obtain ⟨σ, h1, rfl⟩ := (mem_ans ht).1 hx
  obtain ⟨g, hh, hall⟩ := h
  refine (mem_ans hf).2 ⟨fun x => valT σ (g x), fun a ha => ?_, ?_⟩
  · obtain ⟨b, hb, hr, hb2⟩ := hall a ha
    have := h1 b hb
    rw [hb2, ← hr, List.map_map] at this
    have e : a.terms.map (valT fun x => valT σ (g x)) = a.terms.map (valT σ ∘ app g) := List.map_congr_left fun t _ => val_app σ g t
    rw [e]; exact this
  · apply List.ext_getElem?
    intro i
    rw [List.getElem?_map, List.getElem?_map]
    cases hi : t.head[i]? with
    | none =>
      have := List.getElem?_eq_none_iff.1 hi
      rw [List.getElem?_eq_none_iff.2 (by omega)]; rfl
    | some y =>
      obtain ⟨hlt, _⟩ := List.getElem?_eq_some_iff.1 hi
      have hfi : f.head[i]? = some f.head[i] := List.getElem?_eq_getElem (by omega)
      rw [hfi]
      simp only [Option.map_some, Option.some.injEq]
      rw [hh i _ y hfi hi]
      have hy := ht.heads y (List.mem_of_getElem? hi)
      have hn : noVar ⟨y, zeroV⟩ = false := hy
      simp only [valT, hn, Bool.false_eq_true, if_false]
theorem sound_law {big small : Qy} {data : List Tbl} {m1 m2 : Int} (h : (findR big small).2.1 = true) (h1 : (answersP big data m1).2 = 0) (h2 : (answersP small data m2).2 = 0) : grd (answersP small data m2).1 (answersP big data m1).1 0 = (answersP small data m2).1.length := by
  obtain ⟨e1, -⟩ := answersP_ok h1
  obtain ⟨e2, -⟩ := answersP_ok h2
  obtain ⟨h3, h4⟩ := findR_yes.1 h
  obtain ⟨hb, hs, hl⟩ := shapesP_iff.1 h3
  rw [e1, e2]
  exact grd_all (rises_ans _ _) _ 0 (rises_ans _ _) (Nat.zero_le _) fun x hx => lies_ans hb hs hl h4 data x (by simpa using hx)
theorem same_ans {f t : Qy} (hf : Shaped f) (ht : Shaped t) (hl : f.head.length = t.head.length) (h1 : Lies f t) (h2 : Lies t f) (data : List Tbl) : ansP f data = ansP t data :=
  rises_unique (rises_ans _ _) (rises_ans _ _) fun x => ⟨lies_ans ht hf hl.symm h2 data x, lies_ans hf ht hl h1 data x⟩
theorem core_law {q : Qy} {data : List Tbl} {m1 m2 : Int} (h : (coreR q).2 = 0) (h1 : (answersP q data m1).2 = 0) (h2 : (answersP (coreR q).1 data m2).2 = 0) : (answersP q data m1).1 = (answersP (coreR q).1 data m2).1 := by
  obtain ⟨e1, hq⟩ := answersP_ok h1
  obtain ⟨e2, hc⟩ := answersP_ok h2
  rw [e1, e2]
  have hs : shapeQ q = 0 := shapeQ_iff.2 hq
  have ec : (coreR q).1 = coreP q.atoms.length q := by unfold coreR; rw [if_neg (by simpa using hs)]
  rw [ec] at hc ⊢
  have hI := coreP_spec q.atoms.length q hq
  exact same_ans hq hc (by rw [hI.head]) hI.onto (Lies.sub hc.clean hI.head hI.sub) data
end Go.Proofs.Ytpfjkjmimmklcaa
