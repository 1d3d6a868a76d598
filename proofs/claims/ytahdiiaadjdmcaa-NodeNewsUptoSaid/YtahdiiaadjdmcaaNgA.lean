/-
  A node, plain: what a turn does, by its kind.
  A node's turn by the document's words: what stands on, what leans on what, is looked at anew; it is the same turn.
  A node's turn by the document's words, the other kinds.
-/
import Derived.Test.YtahdiiaadjdmcaaGbN
import Derived.Test.YtahdiiaadjdmcaaRowsB
namespace Go.Proofs.Ytahdiiaadjdmcaa
open Go.RowKit Classical

/-- where a row stands first -/
def ixR (r : List V) : List (List V) → Option Nat
  | [] => none
  | s :: l => if sameR s r then some 0 else (ixR r l).map (· + 1)
theorem sameR_self (r : List V) : sameR r r = true := sameR_iff.2 rfl
theorem sameR_ne {r s : List V} (h : r ≠ s) : sameR r s = false := by
  cases hs : sameR r s with
  | false => rfl
  | true => exact absurd (sameR_iff.1 hs) h
theorem plcR_ix (r : List V) : ∀ (l : List (List V)) (i : Nat), plcR r l i = match ixR r l with | none => -1 | some k => ((i + k : Nat) : Int)
  | [], i => rfl
  | s :: l, i => by
    unfold plcR ixR
    split
    · rfl
    · rw [plcR_ix r l (i + 1)]
      cases ixR r l with
      | none => rfl
      | some k => simp only [Option.map_some]; congr 1; omega
theorem ixR_none {r : List V} : ∀ {l : List (List V)}, ixR r l = none ↔ r ∉ l
  | [] => by simp [ixR]
  | s :: l => by
    unfold ixR
    by_cases h : s = r
    · subst h; simp [sameR_self]
    · rw [sameR_ne h]
      simp only [Bool.false_eq_true, if_false, Option.map_eq_none_iff, ixR_none, List.mem_cons, not_or]
      exact ⟨fun h2 => ⟨fun e => h e.symm, h2⟩, fun h2 => h2.2⟩
theorem ixR_get {r : List V} : ∀ {l : List (List V)} {i : Nat}, ixR r l = some i → l[i]? = some r
  | [], i, h => by simp [ixR] at h
  | s :: l, i, h => by
    unfold ixR at h
    by_cases hs : s = r
    · subst hs
      rw [sameR_self] at h
      simp only [if_true, Option.some.injEq] at h
      subst h; rfl
    · rw [sameR_ne hs] at h
      simp only [Bool.false_eq_true, if_false, Option.map_eq_some_iff] at h
      obtain ⟨j, h1, rfl⟩ := h
      simpa using ixR_get h1
theorem ixR_some {r : List V} {l : List (List V)} (h : r ∈ l) : ∃ i, ixR r l = some i := by
  cases hi : ixR r l with
  | none => exact absurd h (ixR_none.1 hi)
  | some i => exact ⟨i, rfl⟩
theorem ixR_del {r : List V} : ∀ {l : List (List V)} {i : Nat}, ixR r l = some i → delR r l = l.eraseIdx i
  | [], i, h => by simp [ixR] at h
  | s :: l, i, h => by
    unfold ixR at h
    unfold delR
    by_cases hs : s = r
    · subst hs
      rw [sameR_self] at h ⊢
      simp only [if_true, Option.some.injEq] at h
      subst h; rfl
    · rw [sameR_ne hs] at h ⊢
      simp only [Bool.false_eq_true, if_false, Option.map_eq_some_iff] at h ⊢
      obtain ⟨j, h1, rfl⟩ := h
      rw [ixR_del h1]; rfl
theorem delR_not {r : List V} : ∀ {l : List (List V)}, r ∉ l → delR r l = l
  | [], _ => rfl
  | s :: l, h => by
    rw [List.mem_cons, not_or] at h
    unfold delR
    rw [sameR_ne (fun e => h.1 e.symm), delR_not h.2]; rfl
theorem delR_filter {r : List V} : ∀ {l : List (List V)}, l.Nodup → delR r l = l.filter fun x => !sameR x r
  | [], _ => rfl
  | s :: l, h => by
    rw [List.nodup_cons] at h
    unfold delR
    by_cases hs : s = r
    · subst hs
      rw [List.filter_cons, sameR_self]
      simp only [if_true, Bool.not_true, Bool.false_eq_true, if_false]
      symm
      rw [List.filter_eq_self]
      intro x hx
      rw [sameR_ne (fun e : x = s => h.1 (e ▸ hx))]; rfl
    · rw [List.filter_cons, sameR_ne hs, delR_filter h.2]; rfl
theorem mem_delR {r x : List V} {l : List (List V)} (h : l.Nodup) : x ∈ delR r l ↔ x ∈ l ∧ x ≠ r := by
  rw [delR_filter h, List.mem_filter]
  constructor
  · rintro ⟨h1, h2⟩
    refine ⟨h1, fun e => ?_⟩
    rw [e, sameR_self] at h2; cases h2
  · rintro ⟨h1, h2⟩
    exact ⟨h1, by rw [sameR_ne h2]; rfl⟩
theorem delR_nodup {r : List V} {l : List (List V)} (h : l.Nodup) : (delR r l).Nodup := by
  rw [delR_filter h]; exact h.filter _
theorem delR_len {r : List V} {l : List (List V)} : (delR r l).length ≤ l.length := by
  induction l with
  | nil => exact Nat.le_refl _
  | cons s l ih => unfold delR; split <;> simp <;> omega

/-- the counts that stand beside the rows -/
def cntL : List (List V) → List Nat → List V → Nat
  | q :: l, c :: m, x => if sameR q x then c else cntL l m x
  | _, _, _ => 0
theorem cntL_ix (x : List V) : ∀ (l : List (List V)) (m : List Nat), cntL l m x = match ixR x l with | none => 0 | some i => m[i]?.getD 0
  | [], m => by simp [cntL, ixR]
  | q :: l, [] => by
    simp only [cntL, ixR]
    split
    · rfl
    · simp
  | q :: l, c :: m => by
    simp only [cntL, ixR]
    split
    · rfl
    · rw [cntL_ix x l m]
      cases ixR x l with
      | none => rfl
      | some k => rfl
theorem cntL_set {own : List V} {c : Nat} (x : List V) : ∀ {l : List (List V)} {m : List Nat} {i : Nat}, m.length = l.length → ixR own l = some i → cntL l (m.set i c) x = if x = own then c else cntL l m x
  | [], m, i, _, h => by simp [ixR] at h
  | q :: l, [], i, hl, _ => by simp at hl
  | q :: l, d :: m, i, hl, h => by
    unfold ixR at h
    by_cases hs : q = own
    · subst hs
      rw [sameR_self] at h
      simp only [if_true, Option.some.injEq] at h
      subst h
      simp only [List.set_cons_zero, cntL]
      by_cases hx : x = q
      · subst hx; simp [sameR_self]
      · rw [sameR_ne (fun e => hx e.symm), if_neg hx]; rfl
    · rw [sameR_ne hs] at h
      simp only [Bool.false_eq_true, if_false, Option.map_eq_some_iff] at h
      obtain ⟨j, h1, rfl⟩ := h
      simp only [List.set_cons_succ, cntL]
      by_cases hx : q = x
      · subst hx; simp [sameR_self, hs]
      · rw [sameR_ne hx]
        exact cntL_set x (by simpa using hl) h1
theorem cntL_erase {own : List V} (x : List V) : ∀ {l : List (List V)} {m : List Nat} {i : Nat}, l.Nodup → m.length = l.length → ixR own l = some i → cntL (l.eraseIdx i) (m.eraseIdx i) x = if x = own then 0 else cntL l m x
  | [], m, i, _, _, h => by simp [ixR] at h
  | q :: l, [], i, _, hl, _ => by simp at hl
  | q :: l, d :: m, i, hn, hl, h => by
    rw [List.nodup_cons] at hn
    unfold ixR at h
    by_cases hs : q = own
    · subst hs
      rw [sameR_self] at h
      simp only [if_true, Option.some.injEq] at h
      subst h
      simp only [List.eraseIdx_cons_zero, cntL]
      by_cases hx : x = q
      · subst hx
        rw [if_pos rfl, cntL_ix, ixR_none.2 hn.1]
      · rw [if_neg hx, sameR_ne (fun e => hx e.symm)]; rfl
    · rw [sameR_ne hs] at h
      simp only [Bool.false_eq_true, if_false, Option.map_eq_some_iff] at h
      obtain ⟨j, h1, rfl⟩ := h
      simp only [List.eraseIdx_cons_succ, cntL]
      by_cases hx : q = x
      · subst hx; simp [sameR_self, hs]
      · rw [sameR_ne hx]
        exact cntL_erase x hn.2 (by simpa using hl) h1
theorem cntL_app {own : List V} (x : List V) (c : Nat) : ∀ {l : List (List V)} {m : List Nat}, own ∉ l → m.length = l.length → cntL (l ++ [own]) (m ++ [c]) x = if x = own then c else cntL l m x
  | [], [], _, _ => by
    simp only [List.nil_append, cntL]
    by_cases hx : x = own
    · subst hx; simp [sameR_self]
    · rw [sameR_ne (fun e => hx e.symm), if_neg hx]; rfl
  | [], _ :: _, _, hl => by simp at hl
  | q :: l, [], _, hl => by simp at hl
  | q :: l, d :: m, hn, hl => by
    rw [List.mem_cons, not_or] at hn
    simp only [List.cons_append, cntL]
    by_cases hx : q = x
    · subst hx; rw [if_neg (fun e : q = own => hn.1 e.symm), sameR_self]; rfl
    · rw [sameR_ne hx]
      exact cntL_app x c hn.2 (by simpa using hl)
theorem cntL_pos {l : List (List V)} {m : List Nat} (hl : m.length = l.length) (h1 : ∀ c ∈ m, 1 ≤ c) (x : List V) : (x ∈ l → 1 ≤ cntL l m x) ∧ (x ∉ l → cntL l m x = 0) := by
  rw [cntL_ix]
  cases hi : ixR x l with
  | none => exact ⟨fun h => absurd h (ixR_none.1 hi), fun _ => rfl⟩
  | some i =>
    refine ⟨fun _ => ?_, fun h => absurd (List.mem_of_getElem? (ixR_get hi)) h⟩
    have hlt := (List.getElem?_eq_some_iff.1 (ixR_get hi)).1
    have : m[i]? = some m[i] := List.getElem?_eq_getElem (by omega)
    show 1 ≤ m[i]?.getD 0
    rw [this]
    exact h1 _ (List.getElem_mem _)

/-- a node's description, when it is right -/
structure NK where
  kind : Nat
  inn : Nat
  keep : List Nat
  side : List Nat
  up : List Nat
  most : Nat
def NK.width (k : NK) : Nat := if k.kind = 2 then k.keep.length else k.inn
/-- what is on, and what is live -/
structure NSt where
  ons : List (List V)
  sides : List (List V)
  cnt : List Nat
  live : List (List V)
abbrev Turn : Type := NSt × List (List V) × List (List V) × Int
/-- the rows that have this side's row -/
def ofSide (k : NK) (s : NSt) (r : List V) : List (List V) := s.ons.filter fun x => sameR (keyR k.side x) r
def sideN (k : NK) (s : NSt) (on : Bool) (r : List V) : Turn :=
  if on then
    if inB s.sides r then (s, [], [], 191) else if s.sides.length < k.most then ({ s with sides := s.sides ++ [r], live := s.live ++ ofSide k s r }, ofSide k s r, ofSide k s r, 0) else (s, [], [], 31)
  else if inB s.sides r then ({ s with sides := delR r s.sides, live := s.live.filter fun x => !sameR (keyR k.side x) r }, ofSide k s r, ofSide k s r, 0) else (s, [], [], 192)
def sourceN (k : NK) (s : NSt) (on : Bool) (r : List V) : Turn :=
  if on then
    if inB s.ons r then (s, [], [], 191) else if s.ons.length < k.most then
      if inB s.sides (keyR k.side r) then ({ s with ons := s.ons ++ [r], live := s.live ++ [r] }, [r], [r], 0) else ({ s with ons := s.ons ++ [r] }, [], [r], 0)
    else (s, [], [], 31)
  else if inB s.ons r then
    if inB s.live r then ({ s with ons := delR r s.ons, live := delR r s.live }, [r], [r], 0) else ({ s with ons := delR r s.ons }, [], [r], 0)
  else (s, [], [], 192)
def leafN (k : NK) (s : NSt) (on : Bool) (r : List V) : Turn :=
  if on then
    if inB s.live r then (s, [], [], 191) else if s.live.length < k.most then ({ s with ons := s.ons ++ [r], live := s.live ++ [r] }, [r], [r], 0) else (s, [], [], 31)
  else if inB s.live r then ({ s with ons := delR r s.ons, live := delR r s.live }, [r], [r], 0) else (s, [], [], 192)
def trimN (k : NK) (s : NSt) (on : Bool) (own : List V) : Turn :=
  if on then
    if cntL s.ons s.cnt own = 65536 then (s, [], [], 31)
    else if cntL s.ons s.cnt own = 0 then
      if s.live.length < k.most then ({ s with ons := s.ons ++ [own], cnt := s.cnt ++ [1], live := s.live ++ [own] }, [own], [own], 0) else (s, [], [], 31)
    else ({ s with cnt := s.cnt.set ((ixR own s.ons).getD 0) (cntL s.ons s.cnt own + 1) }, [], [own], 0)
  else if cntL s.ons s.cnt own = 0 then (s, [], [], 192)
  else if cntL s.ons s.cnt own = 1 then ({ s with ons := delR own s.ons, cnt := s.cnt.eraseIdx ((ixR own s.ons).getD 0), live := delR own s.live }, [own], [own], 0)
  else ({ s with cnt := s.cnt.set ((ixR own s.ons).getD 0) (cntL s.ons s.cnt own - 1) }, [], [own], 0)
/-- a row is put on, or taken off: the state, what flips, what is touched, the error -/
def turnN (k : NK) (s : NSt) (on : Bool) (from_ : Int) (r : List V) : Turn :=
  if from_ = 2 ∧ k.kind = 3 then if fitsR k.side.length r then sideN k s on r else (s, [], [], 62)
  else if from_ ≠ 1 then (s, [], [], 190)
  else if fitsR k.inn r then
    if k.kind = 2 then trimN k s on (keyR k.keep r) else if k.kind = 3 then sourceN k s on r else leafN k s on r
  else (s, [], [], 62)
/-- what a row leans on -/
def supN (k : NK) (s : NSt) (r : List V) : Nat :=
  if k.kind = 3 then if inB s.ons r then if inB s.live r then 2 else 1 else 0
  else if inB s.live r then if k.kind = 2 then cntL s.ons s.cnt r else 1 else 0
def storedN (k : NK) (s : NSt) : Nat := if k.kind = 3 then s.ons.length else s.live.length

/-- a description that is right -/
structure NKOk (k : NK) : Prop where
  kind : k.kind = 1 ∨ k.kind = 2 ∨ k.kind = 3
  inn : k.inn ≤ 30
  most : 1 ≤ k.most ∧ k.most ≤ 65536
  keep : k.keep.length ≤ 30 ∧ ∀ c ∈ k.keep, c < k.inn
  side : k.side.length ≤ 30 ∧ ∀ c ∈ k.side, c < k.inn
  up : k.up.length ≤ 30 ∧ ∀ c ∈ k.up, c < k.width
def Fit (w : Nat) (r : List V) : Prop := fitsR w r = true ∧ smallR r ∧ wfR r
/-- a state that a node may be in -/
structure NOk (k : NK) (s : NSt) : Prop where
  ons : ∀ r ∈ s.ons, Fit k.width r
  nd : s.ons.Nodup
  most : s.ons.length ≤ k.most
  sides : ∀ r ∈ s.sides, Fit k.side.length r
  snd : s.sides.Nodup
  smost : s.sides.length ≤ k.most
  plain : k.kind ≠ 3 → s.live = s.ons
  cnt : k.kind = 2 → s.cnt.length = s.ons.length ∧ ∀ c ∈ s.cnt, 1 ≤ c ∧ c ≤ 65536
  lnd : s.live.Nodup
  meet : k.kind = 3 → ∀ r, r ∈ s.live ↔ r ∈ s.ons ∧ keyR k.side r ∈ s.sides
theorem NOk.start (k : NK) : NOk k ⟨[], [], [], []⟩ := ⟨fun _ h => (by cases h), by simp, Nat.zero_le _, fun _ h => (by cases h), by simp, Nat.zero_le _, fun _ => rfl, fun _ => ⟨rfl, fun _ h => (by cases h)⟩, by simp, fun _ r => by simp⟩
theorem inB_false {l : List (List V)} {r : List V} : inB l r = false ↔ r ∉ l := by
  rw [← inB_iff]; cases inB l r <;> simp
theorem nodup_snoc {l : List (List V)} {r : List V} (h : l.Nodup) (hr : r ∉ l) : (l ++ [r]).Nodup := by
  rw [List.nodup_append]
  exact ⟨h, by simp, fun a ha b hb => by simp at hb; subst hb; exact fun e => hr (e ▸ ha)⟩
theorem NOk.key {k : NK} (hk : NKOk k) {s : NSt} (h : NOk k s) (h3 : k.kind = 3) {r : List V} (hr : r ∈ s.ons) : Fit k.side.length (keyR k.side r) := by
  have h1 := h.ons r hr
  have hw : k.width = k.inn := by unfold NK.width; rw [if_neg (by omega)]
  rw [hw] at h1
  have := keyR_good h1.1 h1.2.1 h1.2.2 hk.side.1 hk.side.2
  exact ⟨by unfold fitsR; rw [Bool.and_eq_true]; exact ⟨decide_eq_true this.len, this.ok⟩, this.small, this.wf⟩
theorem mem_ofSide {k : NK} {s : NSt} {r x : List V} : x ∈ ofSide k s r ↔ x ∈ s.ons ∧ keyR k.side x = r := by
  unfold ofSide
  rw [List.mem_filter, sameR_iff]
/-- a turn leaves a state that may be -/
theorem turn_ok {k : NK} (hk : NKOk k) {s : NSt} (h : NOk k s) (on : Bool) (from_ : Int) {r : List V} (hs : smallR r) (hw : wfR r) : NOk k (turnN k s on from_ r).1 := by
  unfold turnN
  split
  · rename_i h2
    split
    · rename_i hf
      unfold sideN
      split
      · split
        · exact h
        · rename_i hin
          split
          · rename_i hm
            have hin : r ∉ s.sides := inB_false.1 (by simpa using hin)
            refine ⟨h.ons, h.nd, h.most, fun q hq => ?_, nodup_snoc h.snd hin, by simp; omega, fun h3 => absurd h2.2 h3, h.cnt, ?_, fun h3 q => ?_⟩
            · rcases List.mem_append.1 hq with hq | hq
              · exact h.sides q hq
              · simp at hq; subst hq; exact ⟨hf, hs, hw⟩
            · show (s.live ++ ofSide k s r).Nodup
              rw [List.nodup_append]
              refine ⟨h.lnd, h.nd.filter _, fun a ha b hb e => ?_⟩
              subst e
              have h4 := ((h.meet h2.2 a).1 ha).2
              rw [(mem_ofSide.1 hb).2] at h4
              exact hin h4
            · show q ∈ s.live ++ ofSide k s r ↔ q ∈ s.ons ∧ keyR k.side q ∈ s.sides ++ [r]
              rw [List.mem_append, h.meet h3 q, mem_ofSide, List.mem_append, List.mem_singleton]
              constructor
              · rintro (h4 | h4)
                · exact ⟨h4.1, .inl h4.2⟩
                · exact ⟨h4.1, .inr h4.2⟩
              · rintro ⟨h4, h5 | h5⟩
                · exact .inl ⟨h4, h5⟩
                · exact .inr ⟨h4, h5⟩
          · exact h
      · split
        · rename_i hin
          refine ⟨h.ons, h.nd, h.most, fun q hq => h.sides q ((mem_delR h.snd).1 hq).1, delR_nodup h.snd, Nat.le_trans delR_len h.smost, fun h3 => absurd h2.2 h3, h.cnt, h.lnd.filter _, fun h3 q => ?_⟩
          show q ∈ s.live.filter _ ↔ q ∈ s.ons ∧ keyR k.side q ∈ delR r s.sides
          rw [List.mem_filter, h.meet h3 q, mem_delR h.snd]
          constructor
          · rintro ⟨⟨h4, h5⟩, h6⟩
            exact ⟨h4, h5, fun e => by rw [e, sameR_self] at h6; cases h6⟩
          · rintro ⟨h4, h5, h6⟩
            exact ⟨⟨h4, h5⟩, by rw [sameR_ne h6]; rfl⟩
        · exact h
    · exact h
  · split
    · exact h
    · split
      · rename_i hf
        split
        · rename_i h2
          have hkg := keyR_good hf hs hw hk.keep.1 hk.keep.2
          have hwd : k.width = k.keep.length := by unfold NK.width; rw [if_pos h2]
          have hfk : Fit k.width (keyR k.keep r) := ⟨by rw [hwd]; unfold fitsR; rw [Bool.and_eq_true]; exact ⟨decide_eq_true hkg.len, hkg.ok⟩, hkg.small, hkg.wf⟩
          have hc := h.cnt h2
          have hp := cntL_pos hc.1 (fun c hc2 => (hc.2 c hc2).1) (keyR k.keep r)
          have hl := h.plain (by omega)
          generalize keyR k.keep r = own at *
          unfold trimN
          split
          · split
            · exact h
            · rename_i hne
              split
              · rename_i h0
                have hno : own ∉ s.ons := fun hm => by have := hp.1 hm; omega
                split
                · rename_i hm
                  rw [hl] at hm
                  refine ⟨fun q hq => ?_, nodup_snoc h.nd hno, by simp; omega, h.sides, h.snd, h.smost, fun _ => by show s.live ++ [own] = s.ons ++ [own]; rw [hl], fun _ => ⟨by simp [hc.1], fun c hc2 => ?_⟩, by show (s.live ++ [own]).Nodup; rw [hl]; exact nodup_snoc h.nd hno, fun h3 => by omega⟩
                  · rcases List.mem_append.1 hq with hq | hq
                    · exact h.ons q hq
                    · simp at hq; subst hq; exact hfk
                  · rcases List.mem_append.1 hc2 with hc2 | hc2
                    · exact hc.2 c hc2
                    · simp at hc2; omega
                · exact h
              · rename_i h0
                refine ⟨h.ons, h.nd, h.most, h.sides, h.snd, h.smost, h.plain, fun _ => ⟨by simp [hc.1], fun c hc2 => ?_⟩, h.lnd, fun h3 => by omega⟩
                rcases List.mem_or_eq_of_mem_set hc2 with hc2 | rfl
                · exact hc.2 c hc2
                · have : cntL s.ons s.cnt own ≤ 65536 := by
                    rw [cntL_ix]
                    cases ixR own s.ons with
                    | none => simp
                    | some i =>
                      cases hi : s.cnt[i]? with
                      | none => simp [hi]
                      | some c => simpa [hi] using (hc.2 c (List.mem_of_getElem? hi)).2
                  omega
          · split
            · exact h
            · rename_i h0
              have hin : own ∈ s.ons := Classical.byContradiction fun hm => h0 (hp.2 hm)
              obtain ⟨i, hi⟩ := ixR_some hin
              have hlt := (List.getElem?_eq_some_iff.1 (ixR_get hi)).1
              split
              · refine ⟨fun q hq => h.ons q ((mem_delR h.nd).1 hq).1, delR_nodup h.nd, Nat.le_trans delR_len h.most, h.sides, h.snd, h.smost, fun _ => by show delR own s.live = delR own s.ons; rw [hl], fun _ => ⟨?_, fun c hc2 => hc.2 c (List.mem_of_mem_eraseIdx hc2)⟩, by show (delR own s.live).Nodup; rw [hl]; exact delR_nodup h.nd, fun h3 => by omega⟩
                show (s.cnt.eraseIdx _).length = (delR own s.ons).length
                rw [ixR_del hi, hi, List.length_eraseIdx, List.length_eraseIdx]
                simp only [Option.getD_some]
                rw [hc.1]
              · rename_i h1
                refine ⟨h.ons, h.nd, h.most, h.sides, h.snd, h.smost, h.plain, fun _ => ⟨by simp [hc.1], fun c hc2 => ?_⟩, h.lnd, fun h3 => by omega⟩
                rcases List.mem_or_eq_of_mem_set hc2 with hc2 | rfl
                · exact hc.2 c hc2
                · have : cntL s.ons s.cnt own ≤ 65536 := by
                    rw [cntL_ix]
                    cases ixR own s.ons with
                    | none => simp
                    | some i =>
                      cases hi : s.cnt[i]? with
                      | none => simp [hi]
                      | some c => simpa [hi] using (hc.2 c (List.mem_of_getElem? hi)).2
                  omega
        · rename_i h2
          have hwd : k.width = k.inn := by unfold NK.width; rw [if_neg h2]
          have hfr : Fit k.width r := ⟨by rw [hwd]; exact hf, hs, hw⟩
          have hall : ∀ q ∈ s.ons ++ [r], Fit k.width q := fun q hq => by
            rcases List.mem_append.1 hq with hq | hq
            · exact h.ons q hq
            · simp at hq; subst hq; exact hfr
          split
          · rename_i h3
            unfold sourceN
            split
            · split
              · exact h
              · rename_i hin
                have hin : r ∉ s.ons := inB_false.1 (by simpa using hin)
                split
                · rename_i hm
                  split
                  · rename_i hsd
                    have hsd := inB_iff.1 hsd
                    refine ⟨hall, nodup_snoc h.nd hin, by simp; omega, h.sides, h.snd, h.smost, fun h4 => absurd h3 h4, fun h4 => absurd h4 h2, nodup_snoc h.lnd fun hm2 => hin ((h.meet h3 r).1 hm2).1, fun _ q => ?_⟩
                    show q ∈ s.live ++ [r] ↔ q ∈ s.ons ++ [r] ∧ keyR k.side q ∈ s.sides
                    rw [List.mem_append, List.mem_append, List.mem_singleton, h.meet h3 q]
                    constructor
                    · rintro (⟨h4, h5⟩ | rfl)
                      · exact ⟨.inl h4, h5⟩
                      · exact ⟨.inr rfl, hsd⟩
                    · rintro ⟨h4 | h4, h5⟩
                      · exact .inl ⟨h4, h5⟩
                      · exact .inr h4
                  · rename_i hsd
                    have hsd : keyR k.side r ∉ s.sides := inB_false.1 (by simpa using hsd)
                    refine ⟨hall, nodup_snoc h.nd hin, by simp; omega, h.sides, h.snd, h.smost, fun h4 => absurd h3 h4, fun h4 => absurd h4 h2, h.lnd, fun _ q => ?_⟩
                    show q ∈ s.live ↔ q ∈ s.ons ++ [r] ∧ keyR k.side q ∈ s.sides
                    rw [List.mem_append, List.mem_singleton, h.meet h3 q]
                    constructor
                    · rintro ⟨h4, h5⟩; exact ⟨.inl h4, h5⟩
                    · rintro ⟨h4 | rfl, h5⟩
                      · exact ⟨h4, h5⟩
                      · exact absurd h5 hsd
                · exact h
            · split
              · split
                · refine ⟨fun q hq => h.ons q ((mem_delR h.nd).1 hq).1, delR_nodup h.nd, Nat.le_trans delR_len h.most, h.sides, h.snd, h.smost, fun h4 => absurd h3 h4, fun h4 => absurd h4 h2, delR_nodup h.lnd, fun _ q => ?_⟩
                  show q ∈ delR r s.live ↔ q ∈ delR r s.ons ∧ keyR k.side q ∈ s.sides
                  rw [mem_delR h.lnd, mem_delR h.nd, h.meet h3 q]
                  exact ⟨fun h4 => ⟨⟨h4.1.1, h4.2⟩, h4.1.2⟩, fun h4 => ⟨⟨h4.1.1, h4.2⟩, h4.1.2⟩⟩
                · rename_i hlv
                  have hlv : r ∉ s.live := inB_false.1 (by simpa using hlv)
                  refine ⟨fun q hq => h.ons q ((mem_delR h.nd).1 hq).1, delR_nodup h.nd, Nat.le_trans delR_len h.most, h.sides, h.snd, h.smost, fun h4 => absurd h3 h4, fun h4 => absurd h4 h2, h.lnd, fun _ q => ?_⟩
                  show q ∈ s.live ↔ q ∈ delR r s.ons ∧ keyR k.side q ∈ s.sides
                  rw [mem_delR h.nd, h.meet h3 q]
                  refine ⟨fun h4 => ⟨⟨h4.1, fun e => ?_⟩, h4.2⟩, fun h4 => ⟨h4.1.1, h4.2⟩⟩
                  subst e
                  exact hlv ((h.meet h3 q).2 h4)
              · exact h
          · rename_i h3
            have hl := h.plain h3
            unfold leafN
            rw [hl]
            split
            · split
              · exact h
              · rename_i hin
                have hin : r ∉ s.ons := inB_false.1 (by simpa using hin)
                split
                · rename_i hm
                  exact ⟨hall, nodup_snoc h.nd hin, by simp; omega, h.sides, h.snd, h.smost, fun _ => rfl, fun h4 => absurd h4 h2, nodup_snoc h.nd hin, fun h4 => absurd h4 h3⟩
                · exact h
            · split
              · exact ⟨fun q hq => h.ons q ((mem_delR h.nd).1 hq).1, delR_nodup h.nd, Nat.le_trans delR_len h.most, h.sides, h.snd, h.smost, fun _ => rfl, fun h4 => absurd h4 h2, delR_nodup h.nd, fun h4 => absurd h4 h3⟩
              · exact h
      · exact h
end Go.Proofs.Ytahdiiaadjdmcaa

namespace Go.Proofs.Ytahdiiaadjdmcaa
open Go.RowKit Classical

def supD (k : NK) (s : NSt) (r : List V) : Nat := match ixR r s.ons with
  | none => 0
  | some i => if k.kind = 2 then s.cnt[i]?.getD 0 else if k.kind = 3 ∧ inB s.sides (keyR k.side r) = true then 2 else 1
def livesD (k : NK) (s : NSt) (r : List V) : Bool := decide (1 < supD k s r ∨ (supD k s r = 1 ∧ k.kind ≠ 3))
def putD (l : List (List V)) (on : Bool) (r : List V) (most : Nat) : List (List V) × Int := match ixR r l with
  | some i => if on then (l, 191) else (l.eraseIdx i, 0)
  | none => if on then if most ≤ l.length then (l, 31) else (l ++ [r], 0) else (l, 192)
def countD (s : NSt) (on : Bool) (own : List V) (most : Nat) : NSt × Int := match ixR own s.ons with
  | some i => if on then if 65536 ≤ s.cnt[i]?.getD 0 then (s, 31) else ({ s with cnt := s.cnt.set i (s.cnt[i]?.getD 0 + 1) }, 0)
    else if 1 < s.cnt[i]?.getD 0 then ({ s with cnt := s.cnt.set i (s.cnt[i]?.getD 0 - 1) }, 0) else ({ s with ons := s.ons.eraseIdx i, cnt := s.cnt.eraseIdx i }, 0)
  | none => if on then if most ≤ s.ons.length then (s, 31) else ({ s with ons := s.ons ++ [own], cnt := s.cnt ++ [1] }, 0) else (s, 192)
def stepD (k : NK) (s : NSt) (on : Bool) (from_ : Int) (r : List V) : NSt × Int :=
  if k.kind = 2 then countD s on (keyR k.keep r) k.most
  else if from_ = 2 then ({ s with sides := (putD s.sides on r k.most).1 }, (putD s.sides on r k.most).2)
  else ({ s with ons := (putD s.ons on r k.most).1 }, (putD s.ons on r k.most).2)
def listD (s s1 : NSt) (on : Bool) : List (List V) := if on then s1.ons else s.ons
def flipD (k : NK) (s s1 : NSt) (on : Bool) : List (List V) := (listD s s1 on).filter fun x => livesD k s1 x != inB s.live x
def touchD (k : NK) (s s1 : NSt) (on : Bool) : List (List V) := (listD s s1 on).filter fun x => supD k s1 x != supD k s x
def liveD (k : NK) (s s1 : NSt) (on : Bool) : List (List V) := s.live.filter (livesD k s1) ++ (flipD k s s1 on).filter (livesD k s1)
def afterD (k : NK) (s s1 : NSt) (on : Bool) : Turn := ({ s1 with live := liveD k s s1 on }, flipD k s s1 on, touchD k s s1 on, 0)
def bodyD (k : NK) (s : NSt) (on : Bool) (from_ : Int) (r : List V) : Turn :=
  if (stepD k s on from_ r).2 = 0 then afterD k s (stepD k s on from_ r).1 on else (s, [], [], (stepD k s on from_ r).2)
def turnD (k : NK) (s : NSt) (on : Bool) (from_ : Int) (r : List V) : Turn :=
  if from_ = 2 ∧ k.kind = 3 then if fitsR k.side.length r then bodyD k s on from_ r else (s, [], [], 62)
  else if from_ ≠ 1 then (s, [], [], 190)
  else if fitsR k.inn r then bodyD k s on from_ r else (s, [], [], 62)

theorem supD2 {k : NK} (h : k.kind = 2) (s : NSt) (r : List V) : supD k s r = cntL s.ons s.cnt r := by
  rw [cntL_ix]
  unfold supD
  cases ixR r s.ons with
  | none => rfl
  | some i => exact if_pos h
theorem supD3 {k : NK} (h : k.kind = 3) (s : NSt) (r : List V) : supD k s r = if r ∈ s.ons then (if keyR k.side r ∈ s.sides then 2 else 1) else 0 := by
  unfold supD
  cases hi : ixR r s.ons with
  | none => rw [if_neg (ixR_none.1 hi)]
  | some i =>
    rw [if_pos (List.mem_of_getElem? (ixR_get hi))]
    simp only [h, inB_iff, true_and, Nat.reduceEqDiff, if_false]
theorem supD1 {k : NK} (h2 : k.kind ≠ 2) (h3 : k.kind ≠ 3) (s : NSt) (r : List V) : supD k s r = if r ∈ s.ons then 1 else 0 := by
  unfold supD
  cases hi : ixR r s.ons with
  | none => rw [if_neg (ixR_none.1 hi)]
  | some i =>
    rw [if_pos (List.mem_of_getElem? (ixR_get hi))]
    simp only [h2, h3, false_and, if_false]
theorem lives2 {k : NK} (h : k.kind = 2) (s : NSt) (r : List V) : livesD k s r = decide (1 ≤ cntL s.ons s.cnt r) := by
  unfold livesD; rw [supD2 h]; apply decide_eq_decide.2; omega
theorem lives3 {k : NK} (h : k.kind = 3) (s : NSt) (r : List V) : livesD k s r = true ↔ r ∈ s.ons ∧ keyR k.side r ∈ s.sides := by
  unfold livesD
  rw [decide_eq_true_iff, supD3 h]
  by_cases h1 : r ∈ s.ons
  · by_cases h2 : keyR k.side r ∈ s.sides
    · simp [h1, h2]
    · simp [h1, h2, h]
  · simp [h1]
theorem lives1 {k : NK} (h2 : k.kind ≠ 2) (h3 : k.kind ≠ 3) (s : NSt) (r : List V) : livesD k s r = true ↔ r ∈ s.ons := by
  unfold livesD
  rw [decide_eq_true_iff, supD1 h2 h3]
  by_cases h1 : r ∈ s.ons <;> simp [h1, h3]
/-- what the program says a row leans on is what the document says -/
theorem sup_eq {k : NK} {s : NSt} (h : NOk k s) (r : List V) : supN k s r = supD k s r := by
  unfold supN
  by_cases h3 : k.kind = 3
  · rw [if_pos h3, supD3 h3]
    by_cases h1 : r ∈ s.ons
    · rw [inB_iff.2 h1, if_pos rfl, if_pos h1]
      by_cases h2 : keyR k.side r ∈ s.sides
      · rw [inB_iff.2 ((h.meet h3 r).2 ⟨h1, h2⟩), if_pos rfl, if_pos h2]
      · rw [inB_false.2 (fun hl => h2 ((h.meet h3 r).1 hl).2), if_neg h2]; rfl
    · rw [inB_false.2 h1, if_neg h1]; rfl
  · rw [if_neg h3, h.plain h3]
    by_cases h2 : k.kind = 2
    · rw [supD2 h2]
      have hp := cntL_pos (h.cnt h2).1 (fun c hc => ((h.cnt h2).2 c hc).1) r
      by_cases h1 : r ∈ s.ons
      · rw [inB_iff.2 h1, if_pos rfl, if_pos h2]
      · rw [inB_false.2 h1, hp.2 h1]; rfl
    · rw [supD1 h2 h3]
      by_cases h1 : r ∈ s.ons
      · rw [inB_iff.2 h1, if_pos h1, if_pos rfl, if_neg h2]
      · rw [inB_false.2 h1, if_neg h1]; rfl
theorem filter_one {l : List (List V)} {p : List V → Bool} {r : List V} (hn : l.Nodup) (hr : r ∈ l) (hp : ∀ x ∈ l, p x = true ↔ x = r) : l.filter p = [r] := by
  induction l with
  | nil => cases hr
  | cons a l ih =>
    rw [List.nodup_cons] at hn
    rw [List.filter_cons]
    by_cases ha : a = r
    · subst ha
      rw [if_pos ((hp a (List.mem_cons_self ..)).2 rfl)]
      congr 1
      rw [List.filter_eq_nil_iff]
      intro x hx h
      have := (hp x (List.mem_cons_of_mem _ hx)).1 h
      subst this
      exact hn.1 hx
    · rw [if_neg (fun h => ha ((hp a (List.mem_cons_self ..)).1 h))]
      exact ih hn.2 ((List.mem_cons.1 hr).resolve_left (fun e => ha e.symm)) fun x hx => hp x (List.mem_cons_of_mem _ hx)
theorem filter_nil {l : List (List V)} {p : List V → Bool} (hp : ∀ x ∈ l, p x = false) : l.filter p = [] := by
  rw [List.filter_eq_nil_iff]
  intro x hx h
  rw [hp x hx] at h; cases h
theorem filter_all {l : List (List V)} {p : List V → Bool} (hp : ∀ x ∈ l, p x = true) : l.filter p = l := List.filter_eq_self.2 hp
theorem bne_iff' {a b : Bool} : (a != b) = true ↔ ¬ (a = true ↔ b = true) := by cases a <;> cases b <;> simp
theorem put_in {l : List (List V)} {r : List V} (h : r ∈ l) (on : Bool) (most : Nat) : putD l on r most = if on then (l, 191) else (delR r l, 0) := by
  obtain ⟨i, hi⟩ := ixR_some h
  unfold putD
  rw [hi, ixR_del hi]
theorem put_out {l : List (List V)} {r : List V} (h : r ∉ l) (on : Bool) (most : Nat) : putD l on r most = if on then if l.length < most then (l ++ [r], 0) else (l, 31) else (l, 192) := by
  unfold putD
  rw [ixR_none.2 h]
  cases on
  · rfl
  · simp only [if_true]
    by_cases hm : l.length < most
    · rw [if_pos hm, if_neg (by omega)]
    · rw [if_neg hm, if_pos (by omega)]
theorem after_eq {k : NK} {s s1 : NSt} {on : Bool} {L F T : List (List V)} (hf : flipD k s s1 on = F) (ht : touchD k s s1 on = T) (hl : s.live.filter (livesD k s1) ++ F.filter (livesD k s1) = L) : afterD k s s1 on = ({ s1 with live := L }, F, T, 0) := by
  unfold afterD liveD
  rw [hf, ht, hl]
theorem mem_del_iff {r x : List V} {l : List (List V)} (h : l.Nodup) : x ∈ delR r l ↔ x ∈ l ∧ x ≠ r := mem_delR h

theorem side_eq {k : NK} {s : NSt} (h : NOk k s) (h3 : k.kind = 3) (on : Bool) (r : List V) : bodyD k s on 2 r = sideN k s on r := by
  have hst : stepD k s on 2 r = ({ s with sides := (putD s.sides on r k.most).1 }, (putD s.sides on r k.most).2) := by
    unfold stepD; rw [if_neg (by omega), if_pos rfl]
  unfold bodyD
  rw [hst]
  unfold sideN
  by_cases hin : r ∈ s.sides
  · rw [put_in hin, inB_iff.2 hin]
    cases on with
    | true => rfl
    | false =>
      simp only [Bool.false_eq_true, if_false, if_true]
      refine after_eq ?_ ?_ ?_
      · unfold flipD ofSide listD
        simp only [Bool.false_eq_true, if_false]
        apply List.filter_congr
        intro x hx
        apply Bool.eq_iff_iff.2
        rw [bne_iff', lives3 h3, inB_iff, h.meet h3, sameR_iff]
        show ¬ ((x ∈ s.ons ∧ keyR k.side x ∈ delR r s.sides) ↔ (x ∈ s.ons ∧ keyR k.side x ∈ s.sides)) ↔ _
        rw [mem_delR h.snd]
        constructor
        · intro hh
          refine Classical.byContradiction fun hne => hh ⟨fun h4 => ⟨hx, h4.2.1⟩, fun h4 => ⟨hx, h4.2, hne⟩⟩
        · rintro rfl hh
          exact (hh.2 ⟨hx, hin⟩).2.2 rfl
      · unfold touchD ofSide listD
        simp only [Bool.false_eq_true, if_false]
        apply List.filter_congr
        intro x hx
        rw [supD3 h3, supD3 h3]
        show ((if x ∈ s.ons then if keyR k.side x ∈ delR r s.sides then 2 else 1 else 0) != (if x ∈ s.ons then if keyR k.side x ∈ s.sides then 2 else 1 else 0)) = _
        rw [if_pos hx, if_pos hx]
        by_cases he : keyR k.side x = r
        · subst he
          rw [if_neg (fun h4 => ((mem_delR h.snd).1 h4).2 rfl), if_pos hin, sameR_self]; rfl
        · rw [sameR_ne he]
          by_cases hks : keyR k.side x ∈ s.sides
          · rw [if_pos ((mem_delR h.snd).2 ⟨hks, he⟩), if_pos hks]; rfl
          · rw [if_neg (fun h4 => hks ((mem_delR h.snd).1 h4).1), if_neg hks]; rfl
      · rw [filter_nil (l := ofSide k s r), List.append_nil]
        · apply List.filter_congr
          intro x hx
          have hx2 := (h.meet h3 x).1 hx
          apply Bool.eq_iff_iff.2
          rw [lives3 h3]
          show (x ∈ s.ons ∧ keyR k.side x ∈ delR r s.sides) ↔ _
          rw [mem_delR h.snd]
          by_cases he : keyR k.side x = r
          · rw [he, sameR_self]; simp
          · rw [sameR_ne he]; simp [hx2.1, hx2.2, he]
        · intro x hx
          have hx2 := mem_ofSide.1 hx
          refine Bool.eq_false_iff.2 fun h4 => ?_
          have h5 := ((lives3 h3 _ x).1 h4).2
          exact ((mem_delR h.snd).1 h5).2 hx2.2
  · rw [put_out hin, inB_false.2 hin]
    cases on with
    | false => rfl
    | true =>
      simp only [if_true, Bool.false_eq_true, if_false]
      by_cases hm : s.sides.length < k.most
      · rw [if_pos hm, if_pos hm]
        simp only [if_true]
        refine after_eq ?_ ?_ ?_
        · unfold flipD ofSide listD
          simp only [if_true]
          apply List.filter_congr
          intro x hx
          apply Bool.eq_iff_iff.2
          rw [bne_iff', lives3 h3, inB_iff, h.meet h3, sameR_iff]
          show ¬ ((x ∈ s.ons ∧ keyR k.side x ∈ s.sides ++ [r]) ↔ (x ∈ s.ons ∧ keyR k.side x ∈ s.sides)) ↔ _
          rw [List.mem_append, List.mem_singleton]
          constructor
          · intro hh
            refine Classical.byContradiction fun hne => hh ⟨fun h4 => ⟨hx, h4.2.resolve_right hne⟩, fun h4 => ⟨hx, .inl h4.2⟩⟩
          · rintro rfl hh
            exact hin (hh.1 ⟨hx, .inr rfl⟩).2
        · unfold touchD ofSide listD
          simp only [if_true]
          apply List.filter_congr
          intro x hx
          rw [supD3 h3, supD3 h3]
          show ((if x ∈ s.ons then if keyR k.side x ∈ s.sides ++ [r] then 2 else 1 else 0) != (if x ∈ s.ons then if keyR k.side x ∈ s.sides then 2 else 1 else 0)) = _
          rw [if_pos hx, if_pos hx]
          by_cases he : keyR k.side x = r
          · subst he
            rw [if_pos (List.mem_append_right _ (List.mem_singleton.2 rfl)), if_neg hin, sameR_self]; rfl
          · rw [sameR_ne he]
            by_cases hks : keyR k.side x ∈ s.sides
            · rw [if_pos (List.mem_append_left _ hks), if_pos hks]; rfl
            · rw [if_neg (fun h4 => (List.mem_append.1 h4).elim hks fun h5 => he (List.mem_singleton.1 h5)), if_neg hks]; rfl
        · congr 1
          · refine filter_all fun x hx => ?_
            have hx2 := (h.meet h3 x).1 hx
            exact (lives3 h3 _ x).2 ⟨hx2.1, List.mem_append_left _ hx2.2⟩
          · refine filter_all fun x hx => ?_
            have hx2 := mem_ofSide.1 hx
            exact (lives3 h3 _ x).2 ⟨hx2.1, List.mem_append_right _ (List.mem_singleton.2 hx2.2)⟩
      · rw [if_neg hm, if_neg hm]; rfl
end Go.Proofs.Ytahdiiaadjdmcaa

namespace Go.Proofs.Ytahdiiaadjdmcaa
open Go.RowKit Classical

/-- one row comes, nothing else turns -/
theorem after_come {k : NK} {s s1 : NSt} {r : List V} (hr : r ∉ s.ons) (h1 : s1.ons = s.ons ++ [r]) (hlv : ∀ x ∈ s.ons, livesD k s1 x = inB s.live x) (hsup : ∀ x ∈ s.ons, supD k s1 x = supD k s x) (hl : ∀ x ∈ s.live, x ∈ s.ons) (h0 : supD k s r = 0) (h2 : supD k s1 r ≠ 0) :
    afterD k s s1 true = ({ s1 with live := s.live ++ if livesD k s1 r then [r] else [] }, if livesD k s1 r then [r] else [], [r], 0) := by
  have hrl : inB s.live r = false := inB_false.2 fun h => hr (hl r h)
  have hF : flipD k s s1 true = if livesD k s1 r then [r] else [] := by
    unfold flipD listD
    rw [if_pos rfl, h1, List.filter_append, filter_nil (fun x hx => by rw [hlv x hx]; simp)]
    rw [List.filter_cons, hrl]
    cases livesD k s1 r <;> simp
  refine after_eq hF ?_ ?_
  · unfold touchD listD
    rw [if_pos rfl, h1, List.filter_append, filter_nil (fun x hx => by rw [hsup x hx]; simp)]
    rw [List.filter_cons, h0]
    simp [h2]
  · rw [filter_all (fun x hx => by rw [hlv x (hl x hx)]; exact inB_iff.2 hx)]
    congr 1
    cases hb : livesD k s1 r with
    | true => simp [hb]
    | false => simp
/-- one row goes, nothing else turns -/
theorem after_go {k : NK} {s s1 : NSt} {r : List V} (hn : s.ons.Nodup) (hr : r ∈ s.ons) (hlv : ∀ x ∈ s.ons, x ≠ r → livesD k s1 x = inB s.live x) (hsup : ∀ x ∈ s.ons, x ≠ r → supD k s1 x = supD k s x) (hl : ∀ x ∈ s.live, x ∈ s.ons) (hln : s.live.Nodup) (h0 : supD k s r ≠ 0) (h1 : supD k s1 r = 0) :
    afterD k s s1 false = ({ s1 with live := delR r s.live }, if inB s.live r then [r] else [], [r], 0) := by
  have hr0 : livesD k s1 r = false := by unfold livesD; rw [h1]; simp
  have hF : flipD k s s1 false = if inB s.live r then [r] else [] := by
    unfold flipD listD
    rw [if_neg (by simp)]
    cases hb : inB s.live r with
    | true =>
      rw [if_pos rfl]
      refine filter_one hn hr fun x hx => ⟨fun h => Classical.byContradiction fun hne => ?_, fun e => ?_⟩
      · rw [hlv x hx hne] at h; simp at h
      · subst e; rw [hr0, hb]; rfl
    | false =>
      refine filter_nil fun x hx => ?_
      by_cases he : x = r
      · subst he; rw [hr0, hb]; rfl
      · rw [hlv x hx he]; simp
  refine after_eq hF ?_ ?_
  · unfold touchD listD
    rw [if_neg (by simp)]
    refine filter_one hn hr fun x hx => ⟨fun h => Classical.byContradiction fun hne => ?_, fun e => ?_⟩
    · rw [hsup x hx hne] at h; simp at h
    · subst e; rw [h1]; simp; omega
  · have hF2 : (if inB s.live r then [r] else []).filter (livesD k s1) = [] := by
      split
      · rw [List.filter_cons, hr0]; rfl
      · rfl
    rw [hF2, List.append_nil, delR_filter hln]
    apply List.filter_congr
    intro x hx
    by_cases he : x = r
    · subst he; rw [hr0, sameR_self]; rfl
    · rw [hlv x (hl x hx) he, inB_iff.2 hx, sameR_ne he]; rfl
/-- a row stays, but leans on more or less -/
theorem after_stay {k : NK} {s s1 : NSt} {on : Bool} {r : List V} (hn : s.ons.Nodup) (hr : r ∈ s.ons) (h1 : s1.ons = s.ons) (hlv : ∀ x ∈ s.ons, livesD k s1 x = inB s.live x) (hsup : ∀ x ∈ s.ons, x ≠ r → supD k s1 x = supD k s x) (hl : ∀ x ∈ s.live, x ∈ s.ons) (h2 : supD k s1 r ≠ supD k s r) :
    afterD k s s1 on = ({ s1 with live := s.live }, [], [r], 0) := by
  have hli : listD s s1 on = s.ons := by unfold listD; rw [h1]; simp
  refine after_eq ?_ ?_ ?_
  · unfold flipD
    rw [hli]
    exact filter_nil fun x hx => by rw [hlv x hx]; simp
  · unfold touchD
    rw [hli]
    refine filter_one hn hr fun x hx => ⟨fun h => Classical.byContradiction fun hne => ?_, fun e => ?_⟩
    · rw [hsup x hx hne] at h; simp at h
    · subst e; simpa using h2
  · rw [List.filter_nil, List.append_nil]
    exact filter_all fun x hx => by rw [hlv x (hl x hx)]; exact inB_iff.2 hx

theorem source_eq {k : NK} {s : NSt} (h : NOk k s) (h3 : k.kind = 3) (on : Bool) (r : List V) : bodyD k s on 1 r = sourceN k s on r := by
  have hst : stepD k s on 1 r = ({ s with ons := (putD s.ons on r k.most).1 }, (putD s.ons on r k.most).2) := by
    unfold stepD; rw [if_neg (by omega), if_neg (by decide)]
  have hl : ∀ x ∈ s.live, x ∈ s.ons := fun x hx => ((h.meet h3 x).1 hx).1
  unfold bodyD
  rw [hst]
  unfold sourceN
  by_cases hin : r ∈ s.ons
  · rw [put_in hin, inB_iff.2 hin]
    cases on with
    | true => rfl
    | false =>
      simp only [Bool.false_eq_true, if_false, if_true]
      rw [after_go h.nd hin ?_ ?_ hl h.lnd ?_ ?_]
      · cases hb : inB s.live r with
        | true => rfl
        | false => rw [delR_not (inB_false.1 hb)]; rfl
      · intro x hx hne
        apply Bool.eq_iff_iff.2
        rw [lives3 h3, inB_iff, h.meet h3]
        show (x ∈ delR r s.ons ∧ _) ↔ _
        rw [mem_delR h.nd]
        exact ⟨fun h4 => ⟨h4.1.1, h4.2⟩, fun h4 => ⟨⟨h4.1, hne⟩, h4.2⟩⟩
      · intro x hx hne
        rw [supD3 h3, supD3 h3, if_pos hx]
        exact if_pos ((mem_delR h.nd).2 ⟨hx, hne⟩)
      · rw [supD3 h3, if_pos hin]; split <;> omega
      · rw [supD3 h3]
        exact if_neg fun h4 => ((mem_delR h.nd).1 h4).2 rfl
  · rw [put_out hin, inB_false.2 hin]
    cases on with
    | false => rfl
    | true =>
      simp only [if_true, Bool.false_eq_true, if_false]
      by_cases hm : s.ons.length < k.most
      · rw [if_pos hm, if_pos hm]
        simp only [if_true]
        have hlr : livesD k { s with ons := s.ons ++ [r] } r = inB s.sides (keyR k.side r) := by
          apply Bool.eq_iff_iff.2
          rw [lives3 h3, inB_iff]
          exact ⟨fun h4 => h4.2, fun h4 => ⟨List.mem_append_right _ (List.mem_singleton.2 rfl), h4⟩⟩
        rw [after_come hin rfl ?_ ?_ hl ?_ ?_, hlr]
        · cases inB s.sides (keyR k.side r) with
          | true => rfl
          | false => simp only [Bool.false_eq_true, if_false, List.append_nil]
        · intro x hx
          apply Bool.eq_iff_iff.2
          rw [lives3 h3, inB_iff, h.meet h3]
          exact ⟨fun h4 => ⟨hx, h4.2⟩, fun h4 => ⟨List.mem_append_left _ hx, h4.2⟩⟩
        · intro x hx
          rw [supD3 h3, supD3 h3, if_pos hx]
          exact if_pos (List.mem_append_left _ hx)
        · rw [supD3 h3, if_neg hin]
        · rw [supD3 h3]
          show (if r ∈ s.ons ++ [r] then _ else 0) ≠ 0
          rw [if_pos (List.mem_append_right _ (List.mem_singleton.2 rfl))]; split <;> omega
      · rw [if_neg hm, if_neg hm]; rfl
theorem leaf_eq {k : NK} {s : NSt} (h : NOk k s) (h2 : k.kind ≠ 2) (h3 : k.kind ≠ 3) (on : Bool) (r : List V) : bodyD k s on 1 r = leafN k s on r := by
  have hst : stepD k s on 1 r = ({ s with ons := (putD s.ons on r k.most).1 }, (putD s.ons on r k.most).2) := by
    unfold stepD; rw [if_neg h2, if_neg (by decide)]
  have hlv := h.plain h3
  have hl : ∀ x ∈ s.live, x ∈ s.ons := fun x hx => hlv ▸ hx
  have hb : inB s.live r = inB s.ons r := by rw [hlv]
  have hln : s.live.length = s.ons.length := by rw [hlv]
  unfold bodyD
  rw [hst]
  unfold leafN
  by_cases hin : r ∈ s.ons
  · rw [put_in hin, hb, inB_iff.2 hin]
    cases on with
    | true => rfl
    | false =>
      simp only [Bool.false_eq_true, if_false, if_true]
      rw [after_go h.nd hin ?_ ?_ hl h.lnd ?_ ?_]
      · rw [hb, inB_iff.2 hin]; rfl
      · intro x hx hne
        apply Bool.eq_iff_iff.2
        rw [lives1 h2 h3, inB_iff, hlv]
        exact ⟨fun h4 => ((mem_delR h.nd).1 h4).1, fun h4 => (mem_delR h.nd).2 ⟨h4, hne⟩⟩
      · intro x hx hne
        rw [supD1 h2 h3, supD1 h2 h3, if_pos hx]
        exact if_pos ((mem_delR h.nd).2 ⟨hx, hne⟩)
      · rw [supD1 h2 h3, if_pos hin]; omega
      · rw [supD1 h2 h3]
        exact if_neg fun h4 => ((mem_delR h.nd).1 h4).2 rfl
  · rw [put_out hin, hb, inB_false.2 hin]
    cases on with
    | false => rfl
    | true =>
      simp only [if_true, Bool.false_eq_true, if_false]
      by_cases hm : s.ons.length < k.most
      · rw [if_pos hm, if_pos (show s.live.length < k.most by omega)]
        simp only [if_true]
        have hlr : livesD k { s with ons := s.ons ++ [r] } r = true := (lives1 h2 h3 _ r).2 (List.mem_append_right _ (List.mem_singleton.2 rfl))
        rw [after_come hin rfl ?_ ?_ hl ?_ ?_, hlr]
        · rfl
        · intro x hx
          apply Bool.eq_iff_iff.2
          rw [lives1 h2 h3, inB_iff, hlv]
          exact ⟨fun _ => hx, fun h4 => List.mem_append_left _ hx⟩
        · intro x hx
          rw [supD1 h2 h3, supD1 h2 h3, if_pos hx]
          exact if_pos (List.mem_append_left _ hx)
        · rw [supD1 h2 h3, if_neg hin]
        · rw [supD1 h2 h3]
          show (if r ∈ s.ons ++ [r] then 1 else 0) ≠ 0
          rw [if_pos (List.mem_append_right _ (List.mem_singleton.2 rfl))]; omega
      · rw [if_neg hm, if_neg (show ¬ s.live.length < k.most by omega)]; rfl
theorem trim_eq {k : NK} {s : NSt} (h : NOk k s) (h2 : k.kind = 2) (on : Bool) (r : List V) : bodyD k s on 1 r = trimN k s on (keyR k.keep r) := by
  have hst : stepD k s on 1 r = countD s on (keyR k.keep r) k.most := by unfold stepD; rw [if_pos h2]
  have hlv := h.plain (by omega)
  have hl : ∀ x ∈ s.live, x ∈ s.ons := fun x hx => hlv ▸ hx
  have hc := h.cnt h2
  have hp := fun x => cntL_pos hc.1 (fun c hc2 => (hc.2 c hc2).1) x
  have hle : cntL s.ons s.cnt (keyR k.keep r) ≤ 65536 := by
    rw [cntL_ix]
    cases ixR (keyR k.keep r) s.ons with
    | none => simp
    | some i =>
      cases hi : s.cnt[i]? with
      | none => simp [hi]
      | some c => simpa [hi] using (hc.2 c (List.mem_of_getElem? hi)).2
  have hlives : ∀ x ∈ s.ons, decide (1 ≤ cntL s.ons s.cnt x) = inB s.live x := fun x hx => by
    rw [hlv, inB_iff.2 hx]; exact decide_eq_true ((hp x).1 hx)
  have hln : s.live.length = s.ons.length := by rw [hlv]
  unfold bodyD
  rw [hst]
  unfold trimN countD
  generalize keyR k.keep r = own at *
  by_cases hin : own ∈ s.ons
  · obtain ⟨i, hi⟩ := ixR_some hin
    have hci : s.cnt[i]?.getD 0 = cntL s.ons s.cnt own := by rw [cntL_ix, hi]
    have h1 := (hp own).1 hin
    rw [hi]
    simp only [Option.getD_some]
    rw [hci]
    cases on with
    | true =>
      simp only [if_true]
      by_cases hmx : cntL s.ons s.cnt own = 65536
      · rw [if_pos (show 65536 ≤ cntL s.ons s.cnt own by omega), if_pos hmx]; rfl
      · rw [if_neg (show ¬ 65536 ≤ cntL s.ons s.cnt own by omega), if_neg hmx, if_neg (show ¬ cntL s.ons s.cnt own = 0 by omega)]
        simp only [if_true]
        have hs := fun x => cntL_set (own := own) (c := cntL s.ons s.cnt own + 1) x hc.1 hi
        rw [after_stay (s1 := { s with cnt := s.cnt.set i (cntL s.ons s.cnt own + 1) }) h.nd hin rfl ?_ ?_ hl ?_]
        · intro x hx
          rw [lives2 h2]
          show decide (1 ≤ cntL s.ons (s.cnt.set i _) x) = _
          rw [hs x]
          split
          · rw [hlv, inB_iff.2 hx]; exact decide_eq_true (by omega)
          · exact hlives x hx
        · intro x hx hne
          rw [supD2 h2, supD2 h2]
          exact (hs x).trans (if_neg hne)
        · rw [supD2 h2, supD2 h2]
          show cntL s.ons (s.cnt.set i _) own ≠ _
          rw [hs own, if_pos rfl]; omega
    | false =>
      simp only [Bool.false_eq_true, if_false]
      rw [if_neg (show ¬ cntL s.ons s.cnt own = 0 by omega)]
      by_cases h11 : cntL s.ons s.cnt own = 1
      · rw [if_neg (show ¬ 1 < cntL s.ons s.cnt own by omega), if_pos h11]
        simp only [if_true]
        have he := fun x => cntL_erase (own := own) x h.nd hc.1 hi
        have hdl := ixR_del hi
        rw [after_go h.nd hin ?_ ?_ hl h.lnd ?_ ?_]
        · rw [show inB s.live own = true by rw [hlv]; exact inB_iff.2 hin, if_pos rfl, hdl]
        · intro x hx hne
          rw [lives2 h2]
          show decide (1 ≤ cntL (s.ons.eraseIdx i) (s.cnt.eraseIdx i) x) = _
          rw [he x, if_neg hne]
          exact hlives x hx
        · intro x hx hne
          rw [supD2 h2, supD2 h2]
          exact (he x).trans (if_neg hne)
        · rw [supD2 h2]; omega
        · rw [supD2 h2]
          exact (he own).trans (if_pos rfl)
      · rw [if_pos (show 1 < cntL s.ons s.cnt own by omega), if_neg h11]
        simp only [if_true]
        have hs := fun x => cntL_set (own := own) (c := cntL s.ons s.cnt own - 1) x hc.1 hi
        rw [after_stay (s1 := { s with cnt := s.cnt.set i (cntL s.ons s.cnt own - 1) }) h.nd hin rfl ?_ ?_ hl ?_]
        · intro x hx
          rw [lives2 h2]
          show decide (1 ≤ cntL s.ons (s.cnt.set i _) x) = _
          rw [hs x]
          split
          · rw [hlv, inB_iff.2 hx]; exact decide_eq_true (by omega)
          · exact hlives x hx
        · intro x hx hne
          rw [supD2 h2, supD2 h2]
          exact (hs x).trans (if_neg hne)
        · rw [supD2 h2, supD2 h2]
          show cntL s.ons (s.cnt.set i _) own ≠ _
          rw [hs own, if_pos rfl]; omega
  · have h0 := (hp own).2 hin
    rw [ixR_none.2 hin, h0]
    cases on with
    | false => rfl
    | true =>
      simp only [if_true]
      rw [if_neg (show ¬ (0 : Nat) = 65536 by decide), hln]
      by_cases hm : s.ons.length < k.most
      · rw [if_pos hm, if_neg (show ¬ k.most ≤ s.ons.length by omega)]
        simp only [if_true]
        have ha := fun x => cntL_app (own := own) x 1 hin hc.1
        have hlr : livesD k { s with ons := s.ons ++ [own], cnt := s.cnt ++ [1] } own = true := by
          rw [lives2 h2]
          show decide (1 ≤ cntL (s.ons ++ [own]) (s.cnt ++ [1]) own) = true
          rw [ha own, if_pos rfl]; rfl
        rw [after_come hin rfl ?_ ?_ hl ?_ ?_, hlr]
        · rfl
        · intro x hx
          rw [lives2 h2]
          show decide (1 ≤ cntL (s.ons ++ [own]) (s.cnt ++ [1]) x) = _
          rw [ha x, if_neg (fun e : x = own => hin (e ▸ hx))]
          exact hlives x hx
        · intro x hx
          rw [supD2 h2, supD2 h2]
          exact (ha x).trans (if_neg (fun e : x = own => hin (e ▸ hx)))
        · rw [supD2 h2]; exact h0
        · rw [supD2 h2]
          show cntL (s.ons ++ [own]) (s.cnt ++ [1]) own ≠ 0
          rw [ha own, if_pos rfl]; omega
      · rw [if_neg hm, if_pos (show k.most ≤ s.ons.length by omega)]; rfl
/-- THE TURN IS THE DOCUMENT's -/
theorem turn_eq {k : NK} {s : NSt} (h : NOk k s) (on : Bool) (from_ : Int) (r : List V) : turnD k s on from_ r = turnN k s on from_ r := by
  unfold turnD turnN
  by_cases h1 : from_ = 2 ∧ k.kind = 3
  · rw [if_pos h1, if_pos h1, h1.1, side_eq h h1.2]
  · rw [if_neg h1, if_neg h1]
    by_cases h2 : from_ = 1
    · subst h2
      simp only [ne_eq, not_true_eq_false, if_false]
      split
      · by_cases k2 : k.kind = 2
        · rw [if_pos k2, trim_eq h k2]
        · rw [if_neg k2]
          by_cases k3 : k.kind = 3
          · rw [if_pos k3, source_eq h k3]
          · rw [if_neg k3, leaf_eq h k2 k3]
      · rfl
    · simp only [ne_eq, h2, not_false_eq_true, if_true]
end Go.Proofs.Ytahdiiaadjdmcaa
