/-
  node, plain: a Trim's rows and how often each was put on.
-/
import Derived.Test.YtahdiiaadjdmcaaGreatNqH
namespace Go.Proofs.YtahdiiaadjdmcaaGreat
open Go.RowKit Classical

/-- own rows that were seen, and how often each is leant on -/
structure TrimI (K : NK) (s : NSt) (own : List (List V)) (cts : List Int) : Prop where
  len : cts.length = own.length
  cnt : ∀ (i : Nat) (r : List V), own[i]? = some r → cts[i]? = some (cntL s.ons s.cnt r : Int)
  on : ∀ r ∈ s.ons, r ∈ own
  nd : own.Nodup
  fit : ∀ r ∈ own, Fit K.width r
theorem TrimI.start (K : NK) : TrimI K ⟨[], [], [], []⟩ [] [] := ⟨rfl, fun i r h => (by simp at h), fun r h => (by cases h), List.nodup_nil, fun r h => (by cases h)⟩
/-- what a turn does to the counts -/
theorem trim_step {K : NK} (h2 : K.kind = 2) {s : NSt} (h : NOk K s) {on : Bool} {f : Int} {r : List V} (hz : (turnN K s on f r).2.2.2 = 0) : fitsR K.inn r = true ∧
    (∀ x, (cntL (turnN K s on f r).1.ons (turnN K s on f r).1.cnt x : Int) = if x = keyR K.keep r then (cntL s.ons s.cnt x : Int) + (if on then 1 else -1) else (cntL s.ons s.cnt x : Int)) ∧
    (∀ x ∈ (turnN K s on f r).1.ons, x ∈ s.ons ∨ x = keyR K.keep r) ∧ (on = false → keyR K.keep r ∈ s.ons) := by
  have hlen := (h.cnt h2).1
  have hpos := cntL_pos hlen (fun c hc => ((h.cnt h2).2 c hc).1) (keyR K.keep r)
  unfold turnN at hz ⊢
  rw [if_neg (fun hh => by omega)] at hz ⊢
  by_cases hf1 : f ≠ 1
  · rw [if_pos hf1] at hz; exact absurd hz (by show (190 : Int) ≠ 0; omega)
  · rw [if_neg hf1] at hz ⊢
    by_cases hf : fitsR K.inn r = true
    · rw [if_pos hf] at hz ⊢
      rw [if_pos h2] at hz ⊢
      refine ⟨hf, ?_⟩
      generalize keyR K.keep r = own at *
      unfold trimN at hz ⊢
      cases on with
      | true =>
        rw [if_pos rfl] at hz ⊢
        by_cases h1 : cntL s.ons s.cnt own = 65536
        · rw [if_pos h1] at hz; exact absurd hz (by show (31 : Int) ≠ 0; omega)
        · rw [if_neg h1] at hz ⊢
          by_cases h0 : cntL s.ons s.cnt own = 0
          · rw [if_pos h0] at hz ⊢
            have hr : own ∉ s.ons := fun hm => by have := hpos.1 hm; omega
            by_cases h4 : s.live.length < K.most
            · rw [if_pos h4]
              refine ⟨fun x => ?_, fun x hx => (List.mem_append.1 hx).imp id fun e => List.mem_singleton.1 e, fun h => by cases h⟩
              show ((cntL (s.ons ++ [own]) (s.cnt ++ [1]) x : Nat) : Int) = _
              rw [cntL_app x 1 hr hlen]
              by_cases hx : x = own
              · subst hx; rw [if_pos rfl, if_pos rfl, h0]; rfl
              · rw [if_neg hx, if_neg hx]
            · rw [if_neg h4] at hz; exact absurd hz (by show (31 : Int) ≠ 0; omega)
          · rw [if_neg h0]
            have hr : own ∈ s.ons := Classical.byContradiction fun hm => h0 (hpos.2 hm)
            obtain ⟨i, hi⟩ := ixR_some hr
            have hg : (ixR own s.ons).getD 0 = i := by rw [hi]; rfl
            refine ⟨fun x => ?_, fun x hx => .inl hx, fun h => by cases h⟩
            rw [hg]
            show ((cntL s.ons (s.cnt.set i (cntL s.ons s.cnt own + 1)) x : Nat) : Int) = _
            rw [cntL_set x hlen hi]
            by_cases hx : x = own
            · subst hx; rw [if_pos rfl, if_pos rfl]; simp
            · rw [if_neg hx, if_neg hx]
      | false =>
        rw [if_neg (by decide)] at hz ⊢
        by_cases h0 : cntL s.ons s.cnt own = 0
        · rw [if_pos h0] at hz; exact absurd hz (by show (192 : Int) ≠ 0; omega)
        · rw [if_neg h0] at hz ⊢
          have hr : own ∈ s.ons := Classical.byContradiction fun hm => h0 (hpos.2 hm)
          obtain ⟨i, hi⟩ := ixR_some hr
          have hg : (ixR own s.ons).getD 0 = i := by rw [hi]; rfl
          by_cases h1 : cntL s.ons s.cnt own = 1
          · rw [if_pos h1, hg]
            refine ⟨fun x => ?_, fun x hx => .inl ((mem_delR h.nd).1 hx).1, fun _ => hr⟩
            show ((cntL (delR own s.ons) (s.cnt.eraseIdx i) x : Nat) : Int) = _
            rw [ixR_del hi, cntL_erase x h.nd hlen hi]
            by_cases hx : x = own
            · subst hx; rw [if_pos rfl, if_pos rfl, h1]; rfl
            · rw [if_neg hx, if_neg hx]
          · rw [if_neg h1, hg]
            refine ⟨fun x => ?_, fun x hx => .inl hx, fun _ => hr⟩
            show ((cntL s.ons (s.cnt.set i (cntL s.ons s.cnt own - 1)) x : Nat) : Int) = _
            rw [cntL_set x hlen hi]
            by_cases hx : x = own
            · subst hx; rw [if_pos rfl, if_pos rfl]
              simp only [Bool.false_eq_true, if_false]; omega
            · rw [if_neg hx, if_neg hx]
    · rw [if_neg hf] at hz; exact absurd hz (by show (62 : Int) ≠ 0; omega)
/-- a row that was seen: its count is another one -/
theorem TrimI.set {K : NK} {s s' : NSt} {own : List (List V)} {cts : List Int} (h : TrimI K s own cts) {r : List V} {p : Nat} (hp : own[p]? = some r) {d : Int} (hc : ∀ x, (cntL s'.ons s'.cnt x : Int) = if x = r then (cntL s.ons s.cnt x : Int) + d else (cntL s.ons s.cnt x : Int)) (ho : ∀ x ∈ s'.ons, x ∈ s.ons ∨ x = r) : TrimI K s' own (cts.set p ((cntL s.ons s.cnt r : Int) + d)) := by
  refine ⟨by rw [List.length_set, h.len], fun i q hq => ?_, fun x hx => (ho x hx).elim (h.on x) fun e => e ▸ List.mem_of_getElem? hp, h.nd, h.fit⟩
  have hi := (List.getElem?_eq_some_iff.1 hq).1
  rw [hc q]
  by_cases hip : p = i
  · subst hip
    obtain rfl : r = q := Option.some.inj (hp.symm.trans hq)
    rw [if_pos rfl, List.getElem?_set_self (by have := h.len; omega)]
  · have hne : ¬ q = r := fun e => by
      subst e
      exact hip ((List.getElem?_inj (List.getElem?_eq_some_iff.1 hp).1 h.nd).1 (hp.trans hq.symm))
    rw [if_neg hne, List.getElem?_set_ne hip]
    exact h.cnt i q hq
/-- a row that is seen for the first time -/
theorem TrimI.push {K : NK} {s : NSt} {own : List (List V)} {cts : List Int} (h : TrimI K s own cts) (h2 : K.kind = 2) (hs : NOk K s) {r : List V} (hr : r ∉ own) (hf : Fit K.width r) : TrimI K s (own ++ [r]) (cts ++ [0]) := by
  have h0 : cntL s.ons s.cnt r = 0 := (cntL_pos (hs.cnt h2).1 (fun c hc => ((hs.cnt h2).2 c hc).1) r).2 fun hm => hr (h.on r hm)
  refine ⟨by rw [List.length_append, List.length_append, h.len]; rfl, fun i q hq => ?_, fun x hx => List.mem_append_left _ (h.on x hx), nodup_snoc h.nd hr, fun x hx => (List.mem_append.1 hx).elim (h.fit x) fun e => List.mem_singleton.1 e ▸ hf⟩
  rcases Nat.lt_or_ge i own.length with hl | hl
  · rw [List.getElem?_append_left hl] at hq
    rw [List.getElem?_append_left (by rw [h.len]; exact hl)]
    exact h.cnt i q hq
  · rw [List.getElem?_append_right hl] at hq
    have hi0 : i - own.length = 0 := by
      have := (List.getElem?_eq_some_iff.1 hq).1
      simp at this; omega
    rw [hi0] at hq
    obtain rfl : r = q := by simpa using hq
    rw [List.getElem?_append_right (by rw [h.len]; exact hl), h.len, hi0, h0]; rfl
/-- what a row leans on is its count -/
theorem trim_says {K : NK} (h2 : K.kind = 2) {s : NSt} (h : NOk K s) (r : List V) : supN K s r = cntL s.ons s.cnt r ∧ inB s.live r = decide (0 < (cntL s.ons s.cnt r : Int)) := by
  have hp := cntL_pos (h.cnt h2).1 (fun c hc => ((h.cnt h2).2 c hc).1) r
  have hl := h.plain (by omega)
  unfold supN
  rw [if_neg (show ¬ K.kind = 3 by omega), if_pos h2, hl]
  by_cases hr : r ∈ s.ons
  · have := hp.1 hr
    rw [inB_iff.2 hr]
    exact ⟨if_pos rfl, (decide_eq_true (by omega)).symm⟩
  · have := hp.2 hr
    rw [inB_false.2 hr, this]
    exact ⟨by rw [if_neg (by decide)], rfl⟩
/-- how many of the first rows are leant on -/
def liveT (s : NSt) (own : List (List V)) (i : Nat) : Nat := ((own.take i).filter fun r => decide (0 < (cntL s.ons s.cnt r : Int))).length
theorem liveT_next {s : NSt} {own : List (List V)} {i : Nat} {r : List V} (h : own[i]? = some r) : liveT s own (i + 1) = liveT s own i + if 0 < (cntL s.ons s.cnt r : Int) then 1 else 0 := by
  unfold liveT
  rw [List.take_add_one, h]
  simp only [Option.toList_some, List.filter_append, List.length_append, List.filter_cons, List.filter_nil, decide_eq_true_eq]
  split <;> rfl
theorem liveT_le (s : NSt) (own : List (List V)) (i : Nat) : liveT s own i ≤ i := by
  unfold liveT
  have := List.length_filter_le (fun r => decide (0 < (cntL s.ons s.cnt r : Int))) (own.take i)
  rw [List.length_take] at this
  omega
theorem liveT_all {K : NK} (h2 : K.kind = 2) {s : NSt} (h : NOk K s) {own : List (List V)} {cts : List Int} (ht : TrimI K s own cts) : liveT s own own.length = s.live.length := by
  unfold liveT
  rw [List.take_length]
  have hl := h.plain (by omega)
  have hm : ∀ r, r ∈ own.filter (fun r => decide (0 < (cntL s.ons s.cnt r : Int))) ↔ r ∈ s.live := fun r => by
    rw [List.mem_filter, ← (trim_says h2 h r).2, inB_iff]
    exact ⟨fun hh => hh.2, fun hh => ⟨ht.on r (hl ▸ hh), hh⟩⟩
  exact Nat.le_antisymm (nodup_sub_len (ht.nd.filter _) fun r hr => (hm r).1 hr) (nodup_sub_len h.lnd fun r hr => (hm r).2 hr)
end Go.Proofs.YtahdiiaadjdmcaaGreat
