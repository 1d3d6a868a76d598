/-
  A node, plain: what a turn does, by its kind.
  A node's turn by the document's words: what stands on, what leans on what, is looked at anew; it is the same turn.
  A node's turn by the document's words, the other kinds.
-/
import Derived.Test.YtahdiiaadjdmcaaGreatGbN
import Derived.Test.YtahdiiaadjdmcaaGreatRowsB
namespace Go.Proofs.YtahdiiaadjdmcaaGreat
open Go.RowKit Classical

/-- where a row stands first -/
def ixR (r : List V) : List (List V) → Option Nat
  | [] => none
  | s :: l => if sameR s r then some 0 else (ixR r l).map (· + 1)
theorem sameR_self (r : List V) : sameR r r = true := sameR_iff.2 rfl
theorem sameR_ne {r s : List V} (h : r ≠ s) : sameR r s = false := by
  cases hs : sameR r s with
  | false => rfl
  | true => exact absurd (sameR_iff.1 hs) h
theorem plcR_ix (r : List V) : ∀ (l : List (List V)) (i : Nat), plcR r l i = match ixR r l with | none => -1 | some k => ((i + k : Nat) : Int)
  | [], i => rfl
  | s :: l, i => by
    unfold plcR ixR
    split
    · rfl
    · rw [plcR_ix r l (i + 1)]
      cases ixR r l with
      | none => rfl
      | some k => simp only [Option.map_some]; congr 1; omega
theorem ixR_none {r : List V} : ∀ {l : List (List V)}, ixR r l = none ↔ r ∉ l
  | [] => by simp [ixR]
  | s :: l => by
    unfold ixR
    by_cases h : s = r
    · subst h; simp [sameR_self]
    · rw [sameR_ne h]
      simp only [Bool.false_eq_true, if_false, Option.map_eq_none_iff, ixR_none, List.mem_cons, not_or]
      exact ⟨fun h2 => ⟨fun e => h e.symm, h2⟩, fun h2 => h2.2⟩
theorem ixR_get {r : List V} : ∀ {l : List (List V)} {i : Nat}, ixR r l = some i → l[i]? = some r
  | [], i, h => by simp [ixR] at h
  | s :: l, i, h => by
    unfold ixR at h
    by_cases hs : s = r
    · subst hs
      rw [sameR_self] at h
      simp only [if_true, Option.some.injEq] at h
      subst h; rfl
    · rw [sameR_ne hs] at h
      simp only [Bool.false_eq_true, if_false, Option.map_eq_some_iff] at h
      obtain ⟨j, h1, rfl⟩ := h
      simpa using ixR_get h1
theorem ixR_some {r : List V} {l : List (List V)} (h : r ∈ l) : ∃ i, ixR r l = some i := by
  cases hi : ixR r l with
  | none => exact absurd h (ixR_none.1 hi)
  | some i => exact ⟨i, rfl⟩
theorem ixR_del {r : List V} : ∀ {l : List (List V)} {i : Nat}, ixR r l = some i → delR r l = l.eraseIdx i
  | [], i, h => by simp [ixR] at h
  | s :: l, i, h => by
    unfold ixR at h
    unfold delR
    by_cases hs : s = r
    · subst hs
      rw [sameR_self] at h ⊢
      simp only [if_true, Option.some.injEq] at h
      subst h; rfl
    · rw [sameR_ne hs] at h ⊢
      simp only [Bool.false_eq_true, if_false, Option.map_eq_some_iff] at h ⊢
      obtain ⟨j, h1, rfl⟩ := h
      rw [ixR_del h1]; rfl
theorem delR_filter {r : List V} : ∀ {l : List (List V)}, l.Nodup → delR r l = l.filter fun x => !sameR x r
  | [], _ => rfl
  | s :: l, h => by
    rw [List.nodup_cons] at h
    unfold delR
    by_cases hs : s = r
    · subst hs
      rw [List.filter_cons, sameR_self]
      simp only [if_true, Bool.not_true, Bool.false_eq_true, if_false]
      symm
      rw [List.filter_eq_self]
      intro x hx
      rw [sameR_ne (fun e : x = s => h.1 (e ▸ hx))]; rfl
    · rw [List.filter_cons, sameR_ne hs, delR_filter h.2]; rfl
theorem mem_delR {r x : List V} {l : List (List V)} (h : l.Nodup) : x ∈ delR r l ↔ x ∈ l ∧ x ≠ r := by
  rw [delR_filter h, List.mem_filter]
  constructor
  · rintro ⟨h1, h2⟩
    refine ⟨h1, fun e => ?_⟩
    rw [e, sameR_self] at h2; cases h2
  · rintro ⟨h1, h2⟩
    exact ⟨h1, by rw [sameR_ne h2]; rfl⟩
theorem delR_nodup {r : List V} {l : List (List V)} (h : l.Nodup) : (delR r l).Nodup := by
  rw [delR_filter h]; exact h.filter _
theorem delR_len {r : List V} {l : List (List V)} : (delR r l).length ≤ l.length := by
  induction l with
  | nil => exact Nat.le_refl _
  | cons s l ih => unfold delR; split <;> simp <;> omega

/-- the counts that stand beside the rows -/
def cntL : List (List V) → List Nat → List V → Nat
  | q :: l, c :: m, x => if sameR q x then c else cntL l m x
  | _, _, _ => 0
theorem cntL_ix (x : List V) : ∀ (l : List (List V)) (m : List Nat), cntL l m x = match ixR x l with | none => 0 | some i => m[i]?.getD 0
  | [], m => by simp [cntL, ixR]
  | q :: l, [] => by
    simp only [cntL, ixR]
    split
    · rfl
    · simp
  | q :: l, c :: m => by
    simp only [cntL, ixR]
    split
    · rfl
    · rw [cntL_ix x l m]
      cases ixR x l with
      | none => rfl
      | some k => rfl
theorem cntL_set {own : List V} {c : Nat} (x : List V) : ∀ {l : List (List V)} {m : List Nat} {i : Nat}, m.length = l.length → ixR own l = some i → cntL l (m.set i c) x = if x = own then c else cntL l m x
  | [], m, i, _, h => by simp [ixR] at h
  | q :: l, [], i, hl, _ => by simp at hl
  | q :: l, d :: m, i, hl, h => by
    unfold ixR at h
    by_cases hs : q = own
    · subst hs
      rw [sameR_self] at h
      simp only [if_true, Option.some.injEq] at h
      subst h
      simp only [List.set_cons_zero, cntL]
      by_cases hx : x = q
      · subst hx; simp [sameR_self]
      · rw [sameR_ne (fun e => hx e.symm), if_neg hx]; rfl
    · rw [sameR_ne hs] at h
      simp only [Bool.false_eq_true, if_false, Option.map_eq_some_iff] at h
      obtain ⟨j, h1, rfl⟩ := h
      simp only [List.set_cons_succ, cntL]
      by_cases hx : q = x
      · subst hx; simp [sameR_self, hs]
      · rw [sameR_ne hx]
        exact cntL_set x (by simpa using hl) h1
theorem cntL_erase {own : List V} (x : List V) : ∀ {l : List (List V)} {m : List Nat} {i : Nat}, l.Nodup → m.length = l.length → ixR own l = some i → cntL (l.eraseIdx i) (m.eraseIdx i) x = if x = own then 0 else cntL l m x
  | [], m, i, _, _, h => by simp [ixR] at h
  | q :: l, [], i, _, hl, _ => by simp at hl
  | q :: l, d :: m, i, hn, hl, h => by
    rw [List.nodup_cons] at hn
    unfold ixR at h
    by_cases hs : q = own
    · subst hs
      rw [sameR_self] at h
      simp only [if_true, Option.some.injEq] at h
      subst h
      simp only [List.eraseIdx_cons_zero, cntL]
      by_cases hx : x = q
      · subst hx
        rw [if_pos rfl, cntL_ix, ixR_none.2 hn.1]
      · rw [if_neg hx, sameR_ne (fun e => hx e.symm)]; rfl
    · rw [sameR_ne hs] at h
      simp only [Bool.false_eq_true, if_false, Option.map_eq_some_iff] at h
      obtain ⟨j, h1, rfl⟩ := h
      simp only [List.eraseIdx_cons_succ, cntL]
      by_cases hx : q = x
      · subst hx; simp [sameR_self, hs]
      · rw [sameR_ne hx]
        exact cntL_erase x hn.2 (by simpa using hl) h1
theorem cntL_app {own : List V} (x : List V) (c : Nat) : ∀ {l : List (List V)} {m : List Nat}, own ∉ l → m.length = l.length → cntL (l ++ [own]) (m ++ [c]) x = if x = own then c else cntL l m x
  | [], [], _, _ => by
    simp only [List.nil_append, cntL]
    by_cases hx : x = own
    · subst hx; simp [sameR_self]
    · rw [sameR_ne (fun e => hx e.symm), if_neg hx]; rfl
  | [], _ :: _, _, hl => by simp at hl
  | q :: l, [], _, hl => by simp at hl
  | q :: l, d :: m, hn, hl => by
    rw [List.mem_cons, not_or] at hn
    simp only [List.cons_append, cntL]
    by_cases hx : q = x
    · subst hx; rw [if_neg (fun e : q = own => hn.1 e.symm), sameR_self]; rfl
    · rw [sameR_ne hx]
      exact cntL_app x c hn.2 (by simpa using hl)
theorem cntL_pos {l : List (List V)} {m : List Nat} (hl : m.length = l.length) (h1 : ∀ c ∈ m, 1 ≤ c) (x : List V) : (x ∈ l → 1 ≤ cntL l m x) ∧ (x ∉ l → cntL l m x = 0) := by
  rw [cntL_ix]
  cases hi : ixR x l with
  | none => exact ⟨fun h => absurd h (ixR_none.1 hi), fun _ => rfl⟩
  | some i =>
    refine ⟨fun _ => ?_, fun h => absurd (List.mem_of_getElem? (ixR_get hi)) h⟩
    have hlt := (List.getElem?_eq_some_iff.1 (ixR_get hi)).1
    have : m[i]? = some m[i] := List.getElem?_eq_getElem (by omega)
    show 1 ≤ m[i]?.getD 0
    rw [this]
    exact h1 _ (List.getElem_mem _)

/-- a node's description, when it is right -/
structure NK where
  kind : Nat
  inn : Nat
  keep : List Nat
  side : List Nat
  up : List Nat
  most : Nat
def NK.width (k : NK) : Nat := if k.kind = 2 then k.keep.length else k.inn
/-- what is on, and what is live -/
structure NSt where
  ons : List (List V)
  sides : List (List V)
  cnt : List Nat
  live : List (List V)
abbrev Turn : Type := NSt × List (List V) × List (List V) × Int
/-- the rows that have this side's row -/
def ofSide (k : NK) (s : NSt) (r : List V) : List (List V) := s.ons.filter fun x => sameR (keyR k.side x) r
def sideN (k : NK) (s : NSt) (on : Bool) (r : List V) : Turn :=
  if on then
    if inB s.sides r then (s, [], [], 191) else if s.sides.length < k.most then ({ s with sides := s.sides ++ [r], live := s.live ++ ofSide k s r }, ofSide k s r, ofSide k s r, 0) else (s, [], [], 31)
  else if inB s.sides r then ({ s with sides := delR r s.sides, live := s.live.filter fun x => !sameR (keyR k.side x) r }, ofSide k s r, ofSide k s r, 0) else (s, [], [], 192)
def sourceN (k : NK) (s : NSt) (on : Bool) (r : List V) : Turn :=
  if on then
    if inB s.ons r then (s, [], [], 191) else if s.ons.length < k.most then
      if inB s.sides (keyR k.side r) then ({ s with ons := s.ons ++ [r], live := s.live ++ [r] }, [r], [r], 0) else ({ s with ons := s.ons ++ [r] }, [], [r], 0)
    else (s, [], [], 31)
  else if inB s.ons r then
    if inB s.live r then ({ s with ons := delR r s.ons, live := delR r s.live }, [r], [r], 0) else ({ s with ons := delR r s.ons }, [], [r], 0)
  else (s, [], [], 192)
def leafN (k : NK) (s : NSt) (on : Bool) (r : List V) : Turn :=
  if on then
    if inB s.live r then (s, [], [], 191) else if s.live.length < k.most then ({ s with ons := s.ons ++ [r], live := s.live ++ [r] }, [r], [r], 0) else (s, [], [], 31)
  else if inB s.live r then ({ s with ons := delR r s.ons, live := delR r s.live }, [r], [r], 0) else (s, [], [], 192)
def trimN (k : NK) (s : NSt) (on : Bool) (own : List V) : Turn :=
  if on then
    if cntL s.ons s.cnt own = 65536 then (s, [], [], 31)
    else if cntL s.ons s.cnt own = 0 then
      if s.live.length < k.most then ({ s with ons := s.ons ++ [own], cnt := s.cnt ++ [1], live := s.live ++ [own] }, [own], [own], 0) else (s, [], [], 31)
    else ({ s with cnt := s.cnt.set ((ixR own s.ons).getD 0) (cntL s.ons s.cnt own + 1) }, [], [own], 0)
  else if cntL s.ons s.cnt own = 0 then (s, [], [], 192)
  else if cntL s.ons s.cnt own = 1 then ({ s with ons := delR own s.ons, cnt := s.cnt.eraseIdx ((ixR own s.ons).getD 0), live := delR own s.live }, [own], [own], 0)
  else ({ s with cnt := s.cnt.set ((ixR own s.ons).getD 0) (cntL s.ons s.cnt own - 1) }, [], [own], 0)
/-- a row is put on, or taken off: the state, what flips, what is touched, the error -/
def turnN (k : NK) (s : NSt) (on : Bool) (from_ : Int) (r : List V) : Turn :=
  if from_ = 2 ∧ k.kind = 3 then if fitsR k.side.length r then sideN k s on r else (s, [], [], 62)
  else if from_ ≠ 1 then (s, [], [], 190)
  else if fitsR k.inn r then
    if k.kind = 2 then trimN k s on (keyR k.keep r) else if k.kind = 3 then sourceN k s on r else leafN k s on r
  else (s, [], [], 62)
/-- what a row leans on -/
def supN (k : NK) (s : NSt) (r : List V) : Nat :=
  if k.kind = 3 then if inB s.ons r then if inB s.live r then 2 else 1 else 0
  else if inB s.live r then if k.kind = 2 then cntL s.ons s.cnt r else 1 else 0
def storedN (k : NK) (s : NSt) : Nat := if k.kind = 3 then s.ons.length else s.live.length

/-- a description that is right -/
structure NKOk (k : NK) : Prop where
  kind : k.kind = 1 ∨ k.kind = 2 ∨ k.kind = 3
  inn : k.inn ≤ 30
  most : 1 ≤ k.most ∧ k.most ≤ 65536
  keep : k.keep.length ≤ 30 ∧ ∀ c ∈ k.keep, c < k.inn
  side : k.side.length ≤ 30 ∧ ∀ c ∈ k.side, c < k.inn
  up : k.up.length ≤ 30 ∧ ∀ c ∈ k.up, c < k.width
def Fit (w : Nat) (r : List V) : Prop := fitsR w r = true ∧ smallR r ∧ wfR r
/-- a state that a node may be in -/
structure NOk (k : NK) (s : NSt) : Prop where
  ons : ∀ r ∈ s.ons, Fit k.width r
  nd : s.ons.Nodup
  most : s.ons.length ≤ k.most
  sides : ∀ r ∈ s.sides, Fit k.side.length r
  snd : s.sides.Nodup
  smost : s.sides.length ≤ k.most
  plain : k.kind ≠ 3 → s.live = s.ons
  cnt : k.kind = 2 → s.cnt.length = s.ons.length ∧ ∀ c ∈ s.cnt, 1 ≤ c ∧ c ≤ 65536
  lnd : s.live.Nodup
  meet : k.kind = 3 → ∀ r, r ∈ s.live ↔ r ∈ s.ons ∧ keyR k.side r ∈ s.sides
theorem NOk.start (k : NK) : NOk k ⟨[], [], [], []⟩ := ⟨fun _ h => (by cases h), by simp, Nat.zero_le _, fun _ h => (by cases h), by simp, Nat.zero_le _, fun _ => rfl, fun _ => ⟨rfl, fun _ h => (by cases h)⟩, by simp, fun _ r => by simp⟩
theorem inB_false {l : List (List V)} {r : List V} : inB l r = false ↔ r ∉ l := by
  rw [← inB_iff]; cases inB l r <;> simp
theorem nodup_snoc {l : List (List V)} {r : List V} (h : l.Nodup) (hr : r ∉ l) : (l ++ [r]).Nodup := by
  rw [List.nodup_append]
  exact ⟨h, by simp, fun a ha b hb => by simp at hb; subst hb; exact fun e => hr (e ▸ ha)⟩
theorem mem_ofSide {k : NK} {s : NSt} {r x : List V} : x ∈ ofSide k s r ↔ x ∈ s.ons ∧ keyR k.side x = r := by
  unfold ofSide
  rw [List.mem_filter, sameR_iff]
/-- a turn leaves a state that may be -/
theorem turn_ok {k : NK} (hk : NKOk k) {s : NSt} (h : NOk k s) (on : Bool) (from_ : Int) {r : List V} (hs : smallR r) (hw : wfR r) : NOk k (turnN k s on from_ r).1 := by
  unfold turnN
  split
  · rename_i h2
    split
    · rename_i hf
      unfold sideN
      split
      · split
        · exact h
        · rename_i hin
          split
          · rename_i hm
            have hin : r ∉ s.sides := inB_false.1 (by simpa using hin)
            refine ⟨h.ons, h.nd, h.most, fun q hq => ?_, nodup_snoc h.snd hin, by simp; omega, fun h3 => absurd h2.2 h3, h.cnt, ?_, fun h3 q => ?_⟩
            · rcases List.mem_append.1 hq with hq | hq
              · exact h.sides q hq
              · simp at hq; subst hq; exact ⟨hf, hs, hw⟩
            · show (s.live ++ ofSide k s r).Nodup
              rw [List.nodup_append]
              refine ⟨h.lnd, h.nd.filter _, fun a ha b hb e => ?_⟩
              subst e
              have h4 := ((h.meet h2.2 a).1 ha).2
              rw [(mem_ofSide.1 hb).2] at h4
              exact hin h4
            · show q ∈ s.live ++ ofSide k s r ↔ q ∈ s.ons ∧ keyR k.side q ∈ s.sides ++ [r]
              rw [List.mem_append, h.meet h3 q, mem_ofSide, List.mem_append, List.mem_singleton]
              constructor
              · rintro (h4 | h4)
                · exact ⟨h4.1, .inl h4.2⟩
                · exact ⟨h4.1, .inr h4.2⟩
              · rintro ⟨h4, h5 | h5⟩
                · exact .inl ⟨h4, h5⟩
                · exact .inr ⟨h4, h5⟩
          · exact h
      · split
        · rename_i hin
          refine ⟨h.ons, h.nd, h.most, fun q hq => h.sides q ((mem_delR h.snd).1 hq).1, delR_nodup h.snd, Nat.le_trans delR_len h.smost, fun h3 => absurd h2.2 h3, h.cnt, h.lnd.filter _, fun h3 q => ?_⟩
          show q ∈ s.live.filter _ ↔ q ∈ s.ons ∧ keyR k.side q ∈ delR r s.sides
          rw [List.mem_filter, h.meet h3 q, mem_delR h.snd]
          constructor
          · rintro ⟨⟨h4, h5⟩, h6⟩
            exact ⟨h4, h5, fun e => by rw [e, sameR_self] at h6; cases h6⟩
          · rintro ⟨h4, h5, h6⟩
            exact ⟨⟨h4, h5⟩, by rw [sameR_ne h6]; rfl⟩
        · exact h
    · exact h
  · split
    · exact h
    · split
      · rename_i hf
        split
        · rename_i h2
          have hkg := keyR_good hf hs hw hk.keep.1 hk.keep.2
          have hwd : k.width = k.keep.length := by unfold NK.width; rw [if_pos h2]
          have hfk : Fit k.width (keyR k.keep r) := ⟨by rw [hwd]; unfold fitsR; rw [Bool.and_eq_true]; exact ⟨decide_eq_true hkg.len, hkg.ok⟩, hkg.small, hkg.wf⟩
          have hc := h.cnt h2
          have hp := cntL_pos hc.1 (fun c hc2 => (hc.2 c hc2).1) (keyR k.keep r)
          have hl := h.plain (by omega)
          generalize keyR k.keep r = own at *
          unfold trimN
          split
          · split
            · exact h
            · rename_i hne
              split
              · rename_i h0
                have hno : own ∉ s.ons := fun hm => by have := hp.1 hm; omega
                split
                · rename_i hm
                  rw [hl] at hm
                  refine ⟨fun q hq => ?_, nodup_snoc h.nd hno, by simp; omega, h.sides, h.snd, h.smost, fun _ => by show s.live ++ [own] = s.ons ++ [own]; rw [hl], fun _ => ⟨by simp [hc.1], fun c hc2 => ?_⟩, by show (s.live ++ [own]).Nodup; rw [hl]; exact nodup_snoc h.nd hno, fun h3 => by omega⟩
                  · rcases List.mem_append.1 hq with hq | hq
                    · exact h.ons q hq
                    · simp at hq; subst hq; exact hfk
                  · rcases List.mem_append.1 hc2 with hc2 | hc2
                    · exact hc.2 c hc2
                    · simp at hc2; omega
                · exact h
              · rename_i h0
                refine ⟨h.ons, h.nd, h.most, h.sides, h.snd, h.smost, h.plain, fun _ => ⟨by simp [hc.1], fun c hc2 => ?_⟩, h.lnd, fun h3 => by omega⟩
                rcases List.mem_or_eq_of_mem_set hc2 with hc2 | rfl
                · exact hc.2 c hc2
                · have : cntL s.ons s.cnt own ≤ 65536 := by
                    rw [cntL_ix]
                    cases ixR own s.ons with
                    | none => simp
                    | some i =>
                      cases hi : s.cnt[i]? with
                      | none => simp [hi]
                      | some c => simpa [hi] using (hc.2 c (List.mem_of_getElem? hi)).2
                  omega
          · split
            · exact h
            · rename_i h0
              have hin : own ∈ s.ons := Classical.byContradiction fun hm => h0 (hp.2 hm)
              obtain ⟨i, hi⟩ := ixR_some hin
              have hlt := (List.getElem?_eq_some_iff.1 (ixR_get hi)).1
              split
              · refine ⟨fun q hq => h.ons q ((mem_delR h.nd).1 hq).1, delR_nodup h.nd, Nat.le_trans delR_len h.most, h.sides, h.snd, h.smost, fun _ => by show delR own s.live = delR own s.ons; rw [hl], fun _ => ⟨?_, fun c hc2 => hc.2 c (List.mem_of_mem_eraseIdx hc2)⟩, by show (delR own s.live).Nodup; rw [hl]; exact delR_nodup h.nd, fun h3 => by omega⟩
                show (s.cnt.eraseIdx _).length = (delR own s.ons).length
                rw [ixR_del hi, hi, List.length_eraseIdx, List.length_eraseIdx]
                simp only [Option.getD_some]
                rw [hc.1]
              · rename_i h1
                refine ⟨h.ons, h.nd, h.most, h.sides, h.snd, h.smost, h.plain, fun _ => ⟨by simp [hc.1], fun c hc2 => ?_⟩, h.lnd, fun h3 => by omega⟩
                rcases List.mem_or_eq_of_mem_set hc2 with hc2 | rfl
                · exact hc.2 c hc2
                · have : cntL s.ons s.cnt own ≤ 65536 := by
                    rw [cntL_ix]
                    cases ixR own s.ons with
                    | none => simp
                    | some i =>
                      cases hi : s.cnt[i]? with
                      | none => simp [hi]
                      | some c => simpa [hi] using (hc.2 c (List.mem_of_getElem? hi)).2
                  omega
        · rename_i h2
          have hwd : k.width = k.inn := by unfold NK.width; rw [if_neg h2]
          have hfr : Fit k.width r := ⟨by rw [hwd]; exact hf, hs, hw⟩
          have hall : ∀ q ∈ s.ons ++ [r], Fit k.width q := fun q hq => by
            rcases List.mem_append.1 hq with hq | hq
            · exact h.ons q hq
            · simp at hq; subst hq; exact hfr
          split
          · rename_i h3
            unfold sourceN
            split
            · split
              · exact h
              · rename_i hin
                have hin : r ∉ s.ons := inB_false.1 (by simpa using hin)
                split
                · rename_i hm
                  split
                  · rename_i hsd
                    have hsd := inB_iff.1 hsd
                    refine ⟨hall, nodup_snoc h.nd hin, by simp; omega, h.sides, h.snd, h.smost, fun h4 => absurd h3 h4, fun h4 => absurd h4 h2, nodup_snoc h.lnd fun hm2 => hin ((h.meet h3 r).1 hm2).1, fun _ q => ?_⟩
                    show q ∈ s.live ++ [r] ↔ q ∈ s.ons ++ [r] ∧ keyR k.side q ∈ s.sides
                    rw [List.mem_append, List.mem_append, List.mem_singleton, h.meet h3 q]
                    constructor
                    · rintro (⟨h4, h5⟩ | rfl)
                      · exact ⟨.inl h4, h5⟩
                      · exact ⟨.inr rfl, hsd⟩
                    · rintro ⟨h4 | h4, h5⟩
                      · exact .inl ⟨h4, h5⟩
                      · exact .inr h4
                  · rename_i hsd
                    have hsd : keyR k.side r ∉ s.sides := inB_false.1 (by simpa using hsd)
                    refine ⟨hall, nodup_snoc h.nd hin, by simp; omega, h.sides, h.snd, h.smost, fun h4 => absurd h3 h4, fun h4 => absurd h4 h2, h.lnd, fun _ q => ?_⟩
                    show q ∈ s.live ↔ q ∈ s.ons ++ [r] ∧ keyR k.side q ∈ s.sides
                    rw [List.mem_append, List.mem_singleton, h.meet h3 q]
                    constructor
                    · rintro ⟨h4, h5⟩; exact ⟨.inl h4, h5⟩
                    · rintro ⟨h4 | rfl, h5⟩
                      · exact ⟨h4, h5⟩
                      · exact absurd h5 hsd
                · exact h
            · split
              · split
                · refine ⟨fun q hq => h.ons q ((mem_delR h.nd).1 hq).1, delR_nodup h.nd, Nat.le_trans delR_len h.most, h.sides, h.snd, h.smost, fun h4 => absurd h3 h4, fun h4 => absurd h4 h2, delR_nodup h.lnd, fun _ q => ?_⟩
                  show q ∈ delR r s.live ↔ q ∈ delR r s.ons ∧ keyR k.side q ∈ s.sides
                  rw [mem_delR h.lnd, mem_delR h.nd, h.meet h3 q]
                  exact ⟨fun h4 => ⟨⟨h4.1.1, h4.2⟩, h4.1.2⟩, fun h4 => ⟨⟨h4.1.1, h4.2⟩, h4.1.2⟩⟩
                · rename_i hlv
                  have hlv : r ∉ s.live := inB_false.1 (by simpa using hlv)
                  refine ⟨fun q hq => h.ons q ((mem_delR h.nd).1 hq).1, delR_nodup h.nd, Nat.le_trans delR_len h.most, h.sides, h.snd, h.smost, fun h4 => absurd h3 h4, fun h4 => absurd h4 h2, h.lnd, fun _ q => ?_⟩
                  show q ∈ s.live ↔ q ∈ delR r s.ons ∧ keyR k.side q ∈ s.sides
                  rw [mem_delR h.nd, h.meet h3 q]
                  refine ⟨fun h4 => ⟨⟨h4.1, fun e => ?_⟩, h4.2⟩, fun h4 => ⟨h4.1.1, h4.2⟩⟩
                  subst e
                  exact hlv ((h.meet h3 q).2 h4)
              · exact h
          · rename_i h3
            have hl := h.plain h3
            unfold leafN
            rw [hl]
            split
            · split
              · exact h
              · rename_i hin
                have hin : r ∉ s.ons := inB_false.1 (by simpa using hin)
                split
                · rename_i hm
                  exact ⟨hall, nodup_snoc h.nd hin, by simp; omega, h.sides, h.snd, h.smost, fun _ => rfl, fun h4 => absurd h4 h2, nodup_snoc h.nd hin, fun h4 => absurd h4 h3⟩
                · exact h
            · split
              · exact ⟨fun q hq => h.ons q ((mem_delR h.nd).1 hq).1, delR_nodup h.nd, Nat.le_trans delR_len h.most, h.sides, h.snd, h.smost, fun _ => rfl, fun h4 => absurd h4 h2, delR_nodup h.nd, fun h4 => absurd h4 h3⟩
              · exact h
      · exact h
end Go.Proofs.YtahdiiaadjdmcaaGreat

namespace Go.Proofs.YtahdiiaadjdmcaaGreat
open Go.RowKit Classical

def supD (k : NK) (s : NSt) (r : List V) : Nat := match ixR r s.ons with
  | none => 0
  | some i => if k.kind = 2 then s.cnt[i]?.getD 0 else if k.kind = 3 ∧ inB s.sides (keyR k.side r) = true then 2 else 1
def livesD (k : NK) (s : NSt) (r : List V) : Bool := decide (1 < supD k s r ∨ (supD k s r = 1 ∧ k.kind ≠ 3))
def putD (l : List (List V)) (on : Bool) (r : List V) (most : Nat) : List (List V) × Int := match ixR r l with
  | some i => if on then (l, 191) else (l.eraseIdx i, 0)
  | none => if on then if most ≤ l.length then (l, 31) else (l ++ [r], 0) else (l, 192)
def countD (s : NSt) (on : Bool) (own : List V) (most : Nat) : NSt × Int := match ixR own s.ons with
  | some i => if on then if 65536 ≤ s.cnt[i]?.getD 0 then (s, 31) else ({ s with cnt := s.cnt.set i (s.cnt[i]?.getD 0 + 1) }, 0)
    else if 1 < s.cnt[i]?.getD 0 then ({ s with cnt := s.cnt.set i (s.cnt[i]?.getD 0 - 1) }, 0) else ({ s with ons := s.ons.eraseIdx i, cnt := s.cnt.eraseIdx i }, 0)
  | none => if on then if most ≤ s.ons.length then (s, 31) else ({ s with ons := s.ons ++ [own], cnt := s.cnt ++ [1] }, 0) else (s, 192)
def stepD (k : NK) (s : NSt) (on : Bool) (from_ : Int) (r : List V) : NSt × Int :=
  if k.kind = 2 then countD s on (keyR k.keep r) k.most
  else if from_ = 2 then ({ s with sides := (putD s.sides on r k.most).1 }, (putD s.sides on r k.most).2)
  else ({ s with ons := (putD s.ons on r k.most).1 }, (putD s.ons on r k.most).2)
def listD (s s1 : NSt) (on : Bool) : List (List V) := if on then s1.ons else s.ons
def flipD (k : NK) (s s1 : NSt) (on : Bool) : List (List V) := (listD s s1 on).filter fun x => livesD k s1 x != inB s.live x
def touchD (k : NK) (s s1 : NSt) (on : Bool) : List (List V) := (listD s s1 on).filter fun x => supD k s1 x != supD k s x
def liveD (k : NK) (s s1 : NSt) (on : Bool) : List (List V) := s.live.filter (livesD k s1) ++ (flipD k s s1 on).filter (livesD k s1)
def afterD (k : NK) (s s1 : NSt) (on : Bool) : Turn := ({ s1 with live := liveD k s s1 on }, flipD k s s1 on, touchD k s s1 on, 0)
def bodyD (k : NK) (s : NSt) (on : Bool) (from_ : Int) (r : List V) : Turn :=
  if (stepD k s on from_ r).2 = 0 then afterD k s (stepD k s on from_ r).1 on else (s, [], [], (stepD k s on from_ r).2)
def turnD (k : NK) (s : NSt) (on : Bool) (from_ : Int) (r : List V) : Turn :=
  if from_ = 2 ∧ k.kind = 3 then if fitsR k.side.length r then bodyD k s on from_ r else (s, [], [], 62)
  else if from_ ≠ 1 then (s, [], [], 190)
  else if fitsR k.inn r then bodyD k s on from_ r else (s, [], [], 62)

end Go.Proofs.YtahdiiaadjdmcaaGreat

namespace Go.Proofs.YtahdiiaadjdmcaaGreat
open Go.RowKit Classical

end Go.Proofs.YtahdiiaadjdmcaaGreat
